/- What the statements about triangulations stand on: contracts of functions, plain laws. Part 4 of 6, no condition of its own. (K6 K7 K8 K9 K10 J1 K11 K12 E16 J2 J3 J4 J5 J6 J7) -/
import Derived.Test.YtdaeofhdgabhjaaGreatD3
import Derived.Lib.AppendZerosOnto
import Derived.OrdersIn
import Derived.RangeFuncCalls
import Derived.TacticsIn
import Derived.RangeFuncNested
import Derived.RangeFuncBound
import Derived.RangeFuncLeaves
import Derived.RangeFuncFrom
import Derived.Shelf.Abstract
import Derived.OwnWalkIn
import Derived.TacticsInMore
import Derived.LoopNIn
import Derived.LoopIn
import Derived.Lib.SliceRun
import Derived.Deep.DeepCutAuto
namespace Go.Proofs.YtdaeofhdgabhjaaGreat
open Go.RowKit
open Geo (edgesS nth)
section
def stepK (s : Geo.Shape) (v : List Geo.V) (T : Geo.Tab) (i j : Nat) (acc : List Geo.Ring) (k : Nat) : List Geo.Ring :=
  if T i k && (T j k && Geo.emptyP s v i j k) then acc ++ [Geo.triP (nth v i) (nth v j) (nth v k)] else acc
def kAcc (s : Geo.Shape) (v : List Geo.V) (T : Geo.Tab) (i j : Nat) (acc : List Geo.Ring) : Nat → List Geo.Ring
  | 0 => acc
  | m + 1 => stepK s v T i j (kAcc s v T i j acc m) (j + 1 + m)
def jAcc (s : Geo.Shape) (v : List Geo.V) (T : Geo.Tab) (i : Nat) (acc : List Geo.Ring) : Nat → List Geo.Ring
  | 0 => acc
  | m + 1 => if T i (i + 1 + m) then kAcc s v T i (i + 1 + m) (jAcc s v T i acc m) (v.length - (i + 1 + m + 1)) else jAcc s v T i acc m
def iAcc (s : Geo.Shape) (v : List Geo.V) (T : Geo.Tab) : Nat → List Geo.Ring
  | 0 => []
  | i + 1 => jAcc s v T i (iAcc s v T i) (v.length - (i + 1))
def trisP (s : Geo.Shape) (v : List Geo.V) (T : Geo.Tab) : List Geo.Ring := iAcc s v T v.length
variable (s : Geo.Shape) (v : List Geo.V) (T : Geo.Tab)
theorem tri_length (a b c : Geo.V) : (Geo.triP a b c).length ≤ 1000 := by
  unfold Geo.triP Geo.canonR
  split <;> split <;> first | (rw [Geo.begin_length]; simp) | simp
theorem kAcc_length (i j : Nat) (acc : List Geo.Ring) : ∀ m, (kAcc s v T i j acc m).length ≤ acc.length + m
  | 0 => Nat.le_refl _
  | m + 1 => by
    have := kAcc_length i j acc m
    unfold kAcc stepK
    split
    · simp; omega
    · omega
theorem jAcc_length (i : Nat) (acc : List Geo.Ring) : ∀ m, (jAcc s v T i acc m).length ≤ acc.length + m * v.length
  | 0 => by simp [jAcc]
  | m + 1 => by
    have h1 := jAcc_length i acc m
    have h2 := kAcc_length s v T i (i + 1 + m) (jAcc s v T i acc m) (v.length - (i + 1 + m + 1))
    unfold jAcc
    rw [Nat.add_mul]
    split <;> omega
theorem iAcc_length : ∀ i, (iAcc s v T i).length ≤ i * (v.length * v.length)
  | 0 => by simp [iAcc]
  | i + 1 => by
    have h1 := iAcc_length i
    have h2 := jAcc_length s v T i (iAcc s v T i) (v.length - (i + 1))
    have h3 : (v.length - (i + 1)) * v.length ≤ v.length * v.length := Nat.mul_le_mul_right _ (by omega)
    unfold iAcc
    rw [Nat.add_mul]
    omega
theorem kAcc_small (i j : Nat) (acc : List Geo.Ring) (h : ∀ r ∈ acc, r.length ≤ 1000) : ∀ m, ∀ r ∈ kAcc s v T i j acc m, r.length ≤ 1000
  | 0 => h
  | m + 1 => by
    have h1 := kAcc_small i j acc h m
    unfold kAcc stepK
    split
    · intro r hr
      rcases List.mem_append.1 hr with hr | hr
      · exact h1 r hr
      · rw [List.mem_singleton.1 hr]; exact tri_length _ _ _
    · exact h1
theorem jAcc_small (i : Nat) (acc : List Geo.Ring) (h : ∀ r ∈ acc, r.length ≤ 1000) : ∀ m, ∀ r ∈ jAcc s v T i acc m, r.length ≤ 1000
  | 0 => h
  | m + 1 => by
    have h1 := jAcc_small i acc h m
    unfold jAcc
    split
    · exact kAcc_small s v T i _ _ h1 _
    · exact h1
theorem iAcc_small : ∀ i, ∀ r ∈ iAcc s v T i, r.length ≤ 1000
  | 0 => by simp [iAcc]
  | i + 1 => jAcc_small s v T i _ (iAcc_small i) _
end
theorem sortR_snoc (l : List Geo.Ring) (r : Geo.Ring) : Geo.sortR (l ++ [r]) = Geo.insR (Geo.sortR l) r := by unfold Geo.sortR; rw [List.foldl_append]; rfl
theorem canonRR_eq (r : Geo.Ring) : canonRR r = Geo.canonR r := by unfold canonRR Geo.canonR; rw [Geo.valid_eq]
theorem canonRR_mem {r : Geo.Ring} {x : Geo.V} (h : x ∈ canonRR r) : x ∈ r := by
  unfold canonRR at h
  split at h
  · exact (Geo.begin_perm r).mem_iff.1 h
  · simp at h
theorem canonRR_le (r : Geo.Ring) : (canonRR r).length ≤ r.length := by
  unfold canonRR
  split
  · rw [Geo.begin_length]; exact Nat.le_refl _
  · simp
theorem diagR_length (s : Geo.Shape) (v : List Geo.V) (h : v.length ≤ 80) : (Geo.diagR s v).length ≤ 6400 := by
  have h1 := diagUp_length s v v.length
  have h2 : v.length * v.length ≤ 80 * 80 := Nat.mul_le_mul h h
  unfold Geo.diagR; omega
def tJ (s : Geo.Shape) (v : List Geo.V) (T : Geo.Tab) (i j : Nat) : List Geo.Ring := jAcc s v T i (iAcc s v T i) (j - (i + 1))
def tK (s : Geo.Shape) (v : List Geo.V) (T : Geo.Tab) (i j k : Nat) : List Geo.Ring := kAcc s v T i j (tJ s v T i j) (k - (j + 1))
section
variable {s : Geo.Shape} {v : List Geo.V} {T : Geo.Tab} {i j k : Nat}
theorem tJ_zero : tJ s v T i (i + 1) = iAcc s v T i := by unfold tJ; rw [Nat.sub_self]; rfl
theorem tJ_end (hj : ¬ (j : Int) < v.length) (h : j ≤ v.length) : tJ s v T i j = iAcc s v T (i + 1) := by
  obtain rfl : j = v.length := by omega
  rfl
theorem tK_zero : tK s v T i j (j + 1) = tJ s v T i j := by unfold tK; rw [Nat.sub_self]; rfl
theorem tK_succ (h : j < k) : tK s v T i j (k + 1) = stepK s v T i j (tK s v T i j k) k := by
  unfold tK
  rw [show k + 1 - (j + 1) = (k - (j + 1)) + 1 by omega]
  show stepK s v T i j _ (j + 1 + (k - (j + 1))) = _
  rw [show j + 1 + (k - (j + 1)) = k by omega]
theorem tJ_succ (h : i < j) : tJ s v T i (j + 1) = if T i j then kAcc s v T i j (tJ s v T i j) (v.length - (j + 1)) else tJ s v T i j := by
  unfold tJ
  rw [show j + 1 - (i + 1) = (j - (i + 1)) + 1 by omega]
  show (if T i (i + 1 + (j - (i + 1))) = true then kAcc s v T i (i + 1 + (j - (i + 1))) _ (v.length - (i + 1 + (j - (i + 1)) + 1)) else _) = _
  rw [show i + 1 + (j - (i + 1)) = j by omega]
theorem tJ_no (hT : T i j = false) (h : i < j) : tJ s v T i j = tJ s v T i (j + 1) := by rw [tJ_succ h, hT]; rfl
theorem tK_end (hk : ¬ (k : Int) < v.length) (hT : T i j = true) (h : i < j) (h2 : k ≤ v.length) : tK s v T i j k = tJ s v T i (j + 1) := by
  obtain rfl : k = v.length := by omega
  rw [tJ_succ h, hT]; rfl
theorem tK_no (hT : (T i k && T j k) = false) (h : j < k) : tK s v T i j k = tK s v T i j (k + 1) := by
  rw [tK_succ h]; unfold stepK
  rw [if_neg]
  intro hh
  rw [Bool.and_eq_true, Bool.and_eq_true] at hh
  rw [hh.1, hh.2.1] at hT; cases hT
theorem tK_out (hT : Geo.emptyP s v i j k = false) (h : j < k) : tK s v T i j k = tK s v T i j (k + 1) := by
  rw [tK_succ h]; unfold stepK
  rw [if_neg]
  intro hh
  rw [Bool.and_eq_true, Bool.and_eq_true] at hh
  rw [hT] at hh; cases hh.2.2
theorem tK_in (hE : Geo.emptyP s v i j k = true) (hT : (T i k && T j k) = true) (h : j < k) : Geo.insR (Geo.sortR (tK s v T i j k)) (Geo.triP (nth v i) (nth v j) (nth v k)) = Geo.sortR (tK s v T i j (k + 1)) := by
  rw [Bool.and_eq_true] at hT
  rw [tK_succ h]; unfold stepK
  rw [if_pos (by rw [hT.1, hT.2, hE]; rfl), sortR_snoc]
theorem tK_len (hv : v.length ≤ 80) (hi : i < v.length) (hj : j < v.length) (hk : k ≤ v.length) : (Geo.sortR (tK s v T i j k)).length ≤ 600000 := by
  rw [(Geo.sortR_perm _).length_eq]
  have h1 := kAcc_length s v T i j (tJ s v T i j) (k - (j + 1))
  have h2 := jAcc_length s v T i (iAcc s v T i) (j - (i + 1))
  have h3 := iAcc_length s v T i
  have h4 : v.length * v.length ≤ 80 * 80 := Nat.mul_le_mul hv hv
  have h5 : i * (v.length * v.length) ≤ 80 * (80 * 80) := Nat.mul_le_mul (by omega) h4
  have h6 : (j - (i + 1)) * v.length ≤ 80 * 80 := Nat.mul_le_mul (by omega) hv
  unfold tK; unfold tJ at h1 ⊢; omega
theorem tK_low : ∀ r ∈ Geo.sortR (tK s v T i j k), r.length ≤ 100000 := fun r hr => by
  have := kAcc_small s v T i j _ (jAcc_small s v T i _ (iAcc_small s v T i) _) _ r ((Geo.sortR_perm _).mem_iff.1 hr)
  omega
end
def tri (a b c : Geo.V) : Geo.Ring := if Geo.turn a b c < 0 then [a, c, b] else [a, b, c]
theorem tri_canon (a b c : Geo.V) : canonRR (tri a b c) = Geo.triP a b c := by
  rw [canonRR_eq]; unfold tri Geo.triP; split <;> rfl
theorem tri_mem {a b c x : Geo.V} (h : x ∈ Geo.triP a b c) : x = a ∨ x = b ∨ x = c := by
  rw [← tri_canon] at h
  have h := canonRR_mem h
  unfold tri at h
  split at h <;> (simp only [List.mem_cons, List.not_mem_nil, or_false] at h; rcases h with h | h | h <;> simp [h])
def tT (s : Geo.Shape) : Geo.Tab := Geo.joinedP s (vOf s)
def tOf (s : Geo.Shape) : List Geo.Ring := if Geo.validSR s = true then Geo.sortR (trisP s (vOf s) (tT s)) else []
theorem vOf_yes {s : Geo.Shape} (h : Geo.validSR s = true) : vOf s = Geo.vertsS (Geo.canonS s) := if_pos h
theorem dOf_yes {s : Geo.Shape} (h : Geo.validSR s = true) : dOf s = Geo.diagR s (vOf s) := if_pos h
theorem tT_eq {s : Geo.Shape} (h : Geo.validSR s = true) {i k : Nat} (hi : i < (vOf s).length) (hk : k < (vOf s).length) : Geo.joinedR (dOf s ++ edgesS s) (nth (vOf s) i) (nth (vOf s) k) = tT s i k := by
  unfold tT
  rw [dOf_yes h]
  rw [vOf_yes h] at hi hk ⊢
  exact (Geo.joined_eq (vsR h) hi hk).symm
theorem tE_eq {s : Geo.Shape} (h : Geo.validSR s = true) {i j k : Nat} (hi : i < (vOf s).length) (hj : j < (vOf s).length) (hk : k < (vOf s).length) : Geo.triOK s (vOf s) (Geo.triP (nth (vOf s) i) (nth (vOf s) j) (nth (vOf s) k)) = Geo.emptyP s (vOf s) i j k := by
  rw [vOf_yes h] at hi hj hk ⊢
  exact (Geo.empty_eq (vs_near (vsR h)) ((Geo.canon_verts s).nodup_iff.2 (vsR h).nodup) hi hj hk).symm
theorem dOf_len (s : Geo.Shape) : (dOf s).length ≤ 6400 := by
  unfold dOf; split
  · exact diagR_length s _ (vOf_le s)
  · simp
noncomputable def c22 : Con := con (a1 aSh) (fun s => [Fit s]) (fun s => .tup [.lst .R (tOf s), .int .i64 (eOf s)])
set_option maxRecDepth 100000 in
set_option maxHeartbeats 2000000 in
theorem k22 : c22.Ok Tryz.prog 22 := con_ok (cx_ok t20o) (raw := fun r i => Nat.beq r 6 && Nat.beq i 0) (fun s => [lp 8 9 (vOf s).length (fun _ => []) [] (fun i => [(8, .lst .R (Geo.sortR (iAcc s (vOf s) (tT s) i)))]) (fun _ => []) fun i =>
  [(11, .mk Nat (fun F _ => natAt F 10) [] (fun j => [i < j, j ≤ (vOf s).length]) (fun j => [(10, .int .i64 (j : Int)), (8, .lst .R (Geo.sortR (tJ s (vOf s) (tT s) i j)))]) (fun _ => []) (fun j => (vOf s).length - j) fun j =>
  [(15, .mk Nat (fun F _ => natAt F 11) [] (fun k => [j < k, k ≤ (vOf s).length]) (fun k => [(11, .int .i64 (k : Int)), (8, .lst .R (Geo.sortR (tK s (vOf s) (tT s) i j k)))]) (fun _ => []) (fun k => (vOf s).length - k) fun k =>
  [jP 18 [(tT s i k && tT s j k) = true], jR 21 12 67 44 .V (tri (nth (vOf s) i) (nth (vOf s) j) (nth (vOf s) k)), jb 23 143 (Geo.triOK s (vOf s) (Geo.triP (nth (vOf s) i) (nth (vOf s) j) (nth (vOf s) k)))])])]]
  ) (fun _ => ⟨_, rfl⟩) fun s hp => by_vc (q := Fit s ∧ (¬ eOf s = 0 → tOf s = ([] : List (List Geo.V)) ∧ eOf s = eOf s) ∧
 (¬ (¬ eOf s = 0) → Fit s ∧ Fit s ∧ (dOf s).length = (dOf s).length ∧ (dOf s).length + (edgesS s).length ≤ 1000000 ∧ (0 = (0 : Int) ∧ Geo.sortR (iAcc s (vOf s) (tT s) 0) = ([] : List (List Geo.V)) ∧ (0 : Nat) ≤ (vOf s).length) ∧
  (∀ x : Nat, x ≤ (vOf s).length → ((x : Int) < (vOf s).length → in64 ((x : Int) + 1) ∧ ((x : Int) + 1 = ((x + 1 : Nat) : Int) ∧ Geo.sortR (iAcc s (vOf s) (tT s) x) = Geo.sortR (tJ s (vOf s) (tT s) x (x + 1)) ∧ x < x + 1 ∧ x + 1 ≤ (vOf s).length) ∧
    (∀ x_1 : Nat, x < x_1 ∧ x_1 ≤ (vOf s).length → ((x_1 : Int) < (vOf s).length → ix (x : Int) (vOf s).length ∧ ix (x_1 : Int) (vOf s).length ∧ (dOf s ++ edgesS s).length = (dOf s ++ edgesS s).length ∧ (dOf s ++ edgesS s).length ≤ 1000000 ∧ ((!Geo.joinedR (dOf s ++ edgesS s) (nth (vOf s) x) (nth (vOf s) x_1)) = true → in64 ((x_1 : Int) + 1) ∧ (x_1 : Int) + 1 = ((x_1 + 1 : Nat) : Int) ∧ Geo.sortR (tJ s (vOf s) (tT s) x x_1) = Geo.sortR (tJ s (vOf s) (tT s) x (x_1 + 1)) ∧ x < x_1 + 1 ∧ x_1 + 1 ≤ (vOf s).length ∧ (vOf s).length - (x_1 + 1) < (vOf s).length - x_1) ∧
      ((!Geo.joinedR (dOf s ++ edgesS s) (nth (vOf s) x) (nth (vOf s) x_1)) = false → in64 ((x_1 : Int) + 1) ∧ ((x_1 : Int) + 1 = ((x_1 + 1 : Nat) : Int) ∧ Geo.sortR (tJ s (vOf s) (tT s) x x_1) = Geo.sortR (tK s (vOf s) (tT s) x x_1 (x_1 + 1)) ∧ x_1 < x_1 + 1 ∧ x_1 + 1 ≤ (vOf s).length) ∧
       (∀ x_2 : Nat, x_1 < x_2 ∧ x_2 ≤ (vOf s).length → ((x_2 : Int) < (vOf s).length → (ix (x : Int) (vOf s).length ∧ ix (x_2 : Int) (vOf s).length ∧ (dOf s ++ edgesS s).length = (dOf s ++ edgesS s).length ∧ (dOf s ++ edgesS s).length ≤ 1000000 ∧ ((!Geo.joinedR (dOf s ++ edgesS s) (nth (vOf s) x) (nth (vOf s) x_2)) = true → in64 ((x_2 : Int) + 1) ∧ (x_2 : Int) + 1 = ((x_2 + 1 : Nat) : Int) ∧ Geo.sortR (tK s (vOf s) (tT s) x x_1 x_2) = Geo.sortR (tK s (vOf s) (tT s) x x_1 (x_2 + 1)) ∧ x_1 < x_2 + 1 ∧ x_2 + 1 ≤ (vOf s).length ∧ (vOf s).length - (x_2 + 1) < (vOf s).length - x_2) ∧
          ((!Geo.joinedR (dOf s ++ edgesS s) (nth (vOf s) x) (nth (vOf s) x_2)) = false → ix (x_1 : Int) (vOf s).length ∧ ix (x_2 : Int) (vOf s).length ∧ (dOf s ++ edgesS s).length = (dOf s ++ edgesS s).length ∧ (dOf s ++ edgesS s).length ≤ 1000000 ∧ ((!Geo.joinedR (dOf s ++ edgesS s) (nth (vOf s) x_1) (nth (vOf s) x_2)) = true → in64 ((x_2 : Int) + 1) ∧ (x_2 : Int) + 1 = ((x_2 + 1 : Nat) : Int) ∧ Geo.sortR (tK s (vOf s) (tT s) x x_1 x_2) = Geo.sortR (tK s (vOf s) (tT s) x x_1 (x_2 + 1)) ∧ x_1 < x_2 + 1 ∧ x_2 + 1 ≤ (vOf s).length ∧ (vOf s).length - (x_2 + 1) < (vOf s).length - x_2) ∧
           ((!Geo.joinedR (dOf s ++ edgesS s) (nth (vOf s) x_1) (nth (vOf s) x_2)) = false → (tT s x x_2 && tT s x_1 x_2) = true))) ∧
         (∀ y : Unit, (tT s x x_2 && tT s x_1 x_2) = true → ix (x : Int) (vOf s).length ∧ ix (x_1 : Int) (vOf s).length ∧ ix (x_2 : Int) (vOf s).length ∧ (ix (x : Int) (vOf s).length ∧ ix (x_1 : Int) (vOf s).length ∧ ix (x_2 : Int) (vOf s).length ∧ bd 1000000000 (nth (vOf s) x) ∧ bd 1000000000 (nth (vOf s) x_1) ∧ bd 1000000000 (nth (vOf s) x_2) ∧ (Geo.turn (nth (vOf s) x) (nth (vOf s) x_1) (nth (vOf s) x_2) < 0 → ix (x : Int) (vOf s).length ∧ ix (x_2 : Int) (vOf s).length ∧ ix (x_1 : Int) (vOf s).length ∧ (3 : Nat) = (tri (nth (vOf s) x) (nth (vOf s) x_1) (nth (vOf s) x_2)).length ∧ [(nth (vOf s) x), (nth (vOf s) x_2), (nth (vOf s) x_1)] = tri (nth (vOf s) x) (nth (vOf s) x_1) (nth (vOf s) x_2)) ∧
           (¬ Geo.turn (nth (vOf s) x) (nth (vOf s) x_1) (nth (vOf s) x_2) < 0 → (3 : Nat) = (tri (nth (vOf s) x) (nth (vOf s) x_1) (nth (vOf s) x_2)).length ∧ [(nth (vOf s) x), (nth (vOf s) x_1), (nth (vOf s) x_2)] = tri (nth (vOf s) x) (nth (vOf s) x_1) (nth (vOf s) x_2))) ∧
          (∀ y_1 : Unit, (tri (nth (vOf s) x) (nth (vOf s) x_1) (nth (vOf s) x_2)).length = (tri (nth (vOf s) x) (nth (vOf s) x_1) (nth (vOf s) x_2)).length ∧ (tri (nth (vOf s) x) (nth (vOf s) x_1) (nth (vOf s) x_2)).length ≤ 100000 ∧ ((((canonRR (tri (nth (vOf s) x) (nth (vOf s) x_1) (nth (vOf s) x_2))).length : Int) = 3 → (3 : Nat) ≤ (canonRR (tri (nth (vOf s) x) (nth (vOf s) x_1) (nth (vOf s) x_2))).length ∧ (canonRR (tri (nth (vOf s) x) (nth (vOf s) x_1) (nth (vOf s) x_2))).length ≤ 100000 ∧ (vOf s).length ≤ 100000 ∧ (Geo.emptyR (canonRR (tri (nth (vOf s) x) (nth (vOf s) x_1) (nth (vOf s) x_2))) (vOf s) = true → (0 : Nat) < (canonRR (tri (nth (vOf s) x) (nth (vOf s) x_1) (nth (vOf s) x_2))).length ∧ (canonRR (tri (nth (vOf s) x) (nth (vOf s) x_1) (nth (vOf s) x_2))).length ≤ 1000 ∧ (∀ v : Geo.V, v ∈ canonRR (tri (nth (vOf s) x) (nth (vOf s) x_1) (nth (vOf s) x_2)) → bd 10000 v) ∧ Fit s ∧ decide (Geo.whereSR s (Geo.middleR (canonRR (tri (nth (vOf s) x) (nth (vOf s) x_1) (nth (vOf s) x_2)))) = 2) = Geo.triOK s (vOf s) (Geo.triP (nth (vOf s) x) (nth (vOf s) x_1) (nth (vOf s) x_2))) ∧
             (Geo.emptyR (canonRR (tri (nth (vOf s) x) (nth (vOf s) x_1) (nth (vOf s) x_2))) (vOf s) = false → false = Geo.triOK s (vOf s) (Geo.triP (nth (vOf s) x) (nth (vOf s) x_1) (nth (vOf s) x_2)))) ∧
            (¬ ((canonRR (tri (nth (vOf s) x) (nth (vOf s) x_1) (nth (vOf s) x_2))).length : Int) = 3 → false = Geo.triOK s (vOf s) (Geo.triP (nth (vOf s) x) (nth (vOf s) x_1) (nth (vOf s) x_2)))) ∧
           (∀ y_2 : Unit, (Geo.triOK s (vOf s) (Geo.triP (nth (vOf s) x) (nth (vOf s) x_1) (nth (vOf s) x_2)) = true → (Geo.sortR (tK s (vOf s) (tT s) x x_1 x_2)).length ≤ 999999 ∧ (canonRR (tri (nth (vOf s) x) (nth (vOf s) x_1) (nth (vOf s) x_2))).length ≤ 100000 ∧ (∀ q : Geo.Ring, q ∈ Geo.sortR (tK s (vOf s) (tT s) x x_1 x_2) → q.length ≤ 100000) ∧ in64 ((x_2 : Int) + 1) ∧ (x_2 : Int) + 1 = ((x_2 + 1 : Nat) : Int) ∧ Geo.insR (Geo.sortR (tK s (vOf s) (tT s) x x_1 x_2)) (canonRR (tri (nth (vOf s) x) (nth (vOf s) x_1) (nth (vOf s) x_2))) = Geo.sortR (tK s (vOf s) (tT s) x x_1 (x_2 + 1)) ∧ x_1 < x_2 + 1 ∧ x_2 + 1 ≤ (vOf s).length ∧ (vOf s).length - (x_2 + 1) < (vOf s).length - x_2) ∧
            (Geo.triOK s (vOf s) (Geo.triP (nth (vOf s) x) (nth (vOf s) x_1) (nth (vOf s) x_2)) = false → in64 ((x_2 : Int) + 1) ∧ (x_2 : Int) + 1 = ((x_2 + 1 : Nat) : Int) ∧ Geo.sortR (tK s (vOf s) (tT s) x x_1 x_2) = Geo.sortR (tK s (vOf s) (tT s) x x_1 (x_2 + 1)) ∧ x_1 < x_2 + 1 ∧ x_2 + 1 ≤ (vOf s).length ∧ (vOf s).length - (x_2 + 1) < (vOf s).length - x_2))))) ∧
        (¬ (x_2 : Int) < (vOf s).length → in64 ((x_1 : Int) + 1) ∧ (x_1 : Int) + 1 = ((x_1 + 1 : Nat) : Int) ∧ Geo.sortR (tK s (vOf s) (tT s) x x_1 x_2) = Geo.sortR (tJ s (vOf s) (tT s) x (x_1 + 1)) ∧ x < x_1 + 1 ∧ x_1 + 1 ≤ (vOf s).length ∧ (vOf s).length - (x_1 + 1) < (vOf s).length - x_1)))) ∧
     (¬ (x_1 : Int) < (vOf s).length → in64 ((x : Int) + 1) ∧ (x : Int) + 1 = ((x + 1 : Nat) : Int) ∧ Geo.sortR (tJ s (vOf s) (tT s) x x_1) = Geo.sortR (iAcc s (vOf s) (tT s) (x + 1)) ∧ x + 1 ≤ (vOf s).length ∧ (vOf s).length - (x + 1) < (vOf s).length - x))) ∧
   (¬ (x : Int) < (vOf s).length → Geo.sortR (iAcc s (vOf s) (tT s) x) = tOf s ∧ 0 = eOf s)))) (by kernel_rfl) (by
  change Fit s at hp
  have hl := vOf_le s
  have hel := edgesS_le hp
  have hdl := dOf_len s
  have hsd : (dOf s ++ edgesS s).length ≤ 1000000 := by rw [List.length_append]; omega
  have gL : ∀ x : Nat, (x : Int) < (vOf s).length → in64 ((x : Int) + 1) := fun x h => i64w (by omega)
  have hno : ¬ eOf s = 0 → tOf s = [] := fun h => by
    unfold eOf at h; split at h
    · exact (h rfl).elim
    · exact if_neg ‹_›
  have hE : ∀ x : Nat, ¬ (x : Int) < (vOf s).length → x ≤ (vOf s).length → ¬ ¬ eOf s = 0 → Geo.sortR (iAcc s (vOf s) (tT s) x) = tOf s := fun x h1 h2 h3 => by
    unfold tOf; rw [if_pos (eOf_yes h3), show x = (vOf s).length by omega]; rfl
  have gT : ∀ i k : Nat, ¬ ¬ eOf s = 0 → i < (vOf s).length → k < (vOf s).length → Geo.joinedR (dOf s ++ edgesS s) (nth (vOf s) i) (nth (vOf s) k) = tT s i k := fun i k h hi hk => tT_eq (eOf_yes h) hi hk
  have gN : ∀ i j : Nat, (!Geo.joinedR (dOf s ++ edgesS s) (nth (vOf s) i) (nth (vOf s) j)) = true → ¬ ¬ eOf s = 0 → i < j → j < (vOf s).length → Geo.sortR (tJ s (vOf s) (tT s) i j) = Geo.sortR (tJ s (vOf s) (tT s) i (j + 1)) := fun i j h h0 hi hj => by
    rw [gT i j h0 (by omega) hj] at h; rw [tJ_no (nb' h) hi]
  have gY : ∀ i j k : Nat, ¬ (k : Int) < (vOf s).length → (!Geo.joinedR (dOf s ++ edgesS s) (nth (vOf s) i) (nth (vOf s) j)) = false → ¬ ¬ eOf s = 0 → i < j → j < k → k ≤ (vOf s).length → (j : Int) < (vOf s).length → Geo.sortR (tK s (vOf s) (tT s) i j k) = Geo.sortR (tJ s (vOf s) (tT s) i (j + 1)) := fun i j k hk h h0 hi hj hk2 hj2 => by
    rw [gT i j h0 (by omega) (by omega)] at h; rw [tK_end hk (nb h) hi hk2]
  have gA : ∀ i j k : Nat, (!Geo.joinedR (dOf s ++ edgesS s) (nth (vOf s) i) (nth (vOf s) k)) = true → ¬ ¬ eOf s = 0 → i < j → j < k → k < (vOf s).length → Geo.sortR (tK s (vOf s) (tT s) i j k) = Geo.sortR (tK s (vOf s) (tT s) i j (k + 1)) := fun i j k h h0 hi hj hk => by
    rw [gT i k h0 (by omega) hk] at h; rw [tK_no (by rw [nb' h]; rfl) hj]
  have gB : ∀ i j k : Nat, (!Geo.joinedR (dOf s ++ edgesS s) (nth (vOf s) j) (nth (vOf s) k)) = true → ¬ ¬ eOf s = 0 → i < j → j < k → k < (vOf s).length → Geo.sortR (tK s (vOf s) (tT s) i j k) = Geo.sortR (tK s (vOf s) (tT s) i j (k + 1)) := fun i j k h h0 hi hj hk => by
    rw [gT j k h0 (by omega) hk] at h; rw [tK_no (by rw [nb' h, Bool.and_false]) hj]
  have gC : ∀ i j k : Nat, (!Geo.joinedR (dOf s ++ edgesS s) (nth (vOf s) i) (nth (vOf s) k)) = false → (!Geo.joinedR (dOf s ++ edgesS s) (nth (vOf s) j) (nth (vOf s) k)) = false → ¬ ¬ eOf s = 0 → i < j → j < k → k < (vOf s).length → (tT s i k && tT s j k) = true := fun i j k h h1 h0 hi hj hk => by
    rw [gT i k h0 (by omega) hk] at h; rw [gT j k h0 (by omega) hk] at h1; rw [nb h, nb h1]; rfl
  have gD : ∀ a b c : Geo.V, (tri a b c).length = 3 := fun a b c => by unfold tri; split <;> rfl
  have gR1 : ∀ {a b c : Geo.V}, Geo.turn a b c < 0 → [a, c, b] = tri a b c := fun h => by unfold tri; rw [if_pos h]
  have gR2 : ∀ {a b c : Geo.V}, ¬ Geo.turn a b c < 0 → [a, b, c] = tri a b c := fun h => by unfold tri; rw [if_neg h]
  have gM : ∀ a b c : Geo.V, (canonRR (tri a b c)).length ≤ 3 := fun a b c => by have := canonRR_le (tri a b c); rw [gD] at this; exact this
  have gO1 : ∀ a b c : Geo.V, ((canonRR (tri a b c)).length : Int) = 3 → Geo.emptyR (canonRR (tri a b c)) (vOf s) = true → decide (Geo.whereSR s (Geo.middleR (canonRR (tri a b c))) = 2) = Geo.triOK s (vOf s) (Geo.triP a b c) := fun a b c h1 h2 => by
    have h1 : (Geo.triP a b c).length = 3 := by rw [← tri_canon]; omega
    rw [tri_canon] at h2 ⊢; unfold Geo.triOK; rw [h2, h1, Bool.eq_iff_iff, decide_eq_true_eq]; simp
  have gO2 : ∀ a b c : Geo.V, Geo.emptyR (canonRR (tri a b c)) (vOf s) = false → false = Geo.triOK s (vOf s) (Geo.triP a b c) := fun a b c h2 => by
    rw [tri_canon] at h2; unfold Geo.triOK; rw [h2, Bool.and_false, Bool.false_and]
  have gO3 : ∀ a b c : Geo.V, ¬ ((canonRR (tri a b c)).length : Int) = 3 → false = Geo.triOK s (vOf s) (Geo.triP a b c) := fun a b c h2 => by
    have h1 : ((Geo.triP a b c).length == 3) = false := by rw [← tri_canon, beq_eq_false_iff_ne]; omega
    unfold Geo.triOK; rw [h1, Bool.false_and, Bool.false_and]
  have gW : ∀ (i j k : Nat) (v : Geo.V), v ∈ canonRR (tri (nth (vOf s) i) (nth (vOf s) j) (nth (vOf s) k)) → i < (vOf s).length → j < (vOf s).length → k < (vOf s).length → bd 10000 v := fun i j k v h hi hj hk => by
    rw [tri_canon] at h
    rcases tri_mem h with rfl | rfl | rfl
    · exact vOf_bd hi
    · exact vOf_bd hj
    · exact vOf_bd hk
  have gS : ∀ i j k : Nat, i < j → j < k → k ≤ (vOf s).length → (Geo.sortR (tK s (vOf s) (tT s) i j k)).length ≤ 999999 := fun i j k h1 h2 h3 => Nat.le_trans (tK_len hl (by omega) (by omega) h3) (by decide)
  have gI : ∀ i j k : Nat, Geo.triOK s (vOf s) (Geo.triP (nth (vOf s) i) (nth (vOf s) j) (nth (vOf s) k)) = true → (tT s i k && tT s j k) = true → ¬ ¬ eOf s = 0 → i < j → j < k → (k : Int) < (vOf s).length → Geo.insR (Geo.sortR (tK s (vOf s) (tT s) i j k)) (canonRR (tri (nth (vOf s) i) (nth (vOf s) j) (nth (vOf s) k))) = Geo.sortR (tK s (vOf s) (tT s) i j (k + 1)) := fun i j k h h2 h0 hi hj hk => by
    rw [tE_eq (eOf_yes h0) (by omega) (by omega) (by omega)] at h
    rw [tri_canon]; exact tK_in h h2 hj
  have gX : ∀ i j k : Nat, Geo.triOK s (vOf s) (Geo.triP (nth (vOf s) i) (nth (vOf s) j) (nth (vOf s) k)) = false → ¬ ¬ eOf s = 0 → i < j → j < k → (k : Int) < (vOf s).length → Geo.sortR (tK s (vOf s) (tT s) i j k) = Geo.sortR (tK s (vOf s) (tT s) i j (k + 1)) := fun i j k h h0 hi hj hk => by
    rw [tE_eq (eOf_yes h0) (by omega) (by omega) (by omega)] at h
    rw [tK_out h hj]
  repeat' first | with_reducible apply And.intro | with_reducible intro
  all_goals repeat with_reducible cases ‹_ ∧ _›
  all_goals first | assumption | rfl | exact trivial | exact nb ‹_› | exact nb' ‹_› | omega | exact ix_mod (by omega) | (unfold ix; omega) | (unfold in64; omega) | exact upto_zero _ | exact upto_succ ‹_› ‹_› | (refine upto_succ ‹_› ?_; simp_all; done) | exact hno ‹_› | exact hE _ ‹_› ‹_› ‹_› | exact gL _ ‹_› | exact congrArg Geo.sortR tJ_zero.symm | exact congrArg Geo.sortR tK_zero.symm | exact congrArg Geo.sortR (tJ_end ‹_› ‹_›) | exact gN _ _ ‹_› ‹_› (by omega) (by omega) | exact gY _ _ _ ‹_› ‹_› ‹_› (by omega) ‹_› ‹_› ‹_› | exact vOf_bd (by omega) | exact vOf_bd (by omega) (by decide) | exact gA _ _ _ ‹_› ‹_› ‹_› ‹_› (by omega) | exact gB _ _ _ ‹_› ‹_› ‹_› ‹_› (by omega) | exact gC _ _ _ ‹_› ‹_› ‹_› ‹_› ‹_› (by omega) | exact (gD _ _ _).symm | exact gR1 ‹_› | exact gR2 ‹_› | (rw [gD]; decide) | exact gO1 _ _ _ ‹_› ‹_› | exact gO2 _ _ _ ‹_› | exact gO3 _ _ _ ‹_› | exact gW _ _ _ _ ‹_› (by omega) (by omega) (by omega) | exact Nat.le_trans (gM _ _ _) (by decide) | exact gS _ _ _ ‹_› ‹_› ‹_› | exact tK_low _ ‹_› | exact gI _ _ _ ‹_› ‹_› ‹_› ‹_› ‹_› ‹_› | exact gX _ _ _ ‹_› ‹_› ‹_› ‹_› ‹_› | grind)
noncomputable def t22 : Tab := tabL [(22, c22)] t20
theorem t22o : t22.Ok Tryz.prog := tabL_ok t20o ⟨k22, trivial⟩
end Go.Proofs.YtdaeofhdgabhjaaGreat
namespace Go.Proofs.YtdaeofhdgabhjaaGreat
open Go.RowKit
set_option maxRecDepth 100000
noncomputable section
open Geo (nthR)
theorem nthR_ext {a b : List Geo.Ring} (hl : a.length = b.length) (h : ∀ j, j < a.length → nthR a j = nthR b j) : a = b := List.ext_getElem hl fun i h1 h2 => by rw [← nthR_eq h1, ← nthR_eq h2]; exact h i h1
theorem nthS_ext {a b : List Geo.S} (hl : a.length = b.length) (h : ∀ j, j < a.length → nthS a j = nthS b j) : a = b := List.ext_getElem hl fun i h1 h2 => by rw [← nthS_eq h1, ← nthS_eq h2]; exact h i h1
def fewN (s : Geo.Shape) : Nat → Int
  | 0 => s.outer.length
  | k + 1 => IntKind.i64.wrap (fewN s k + ((nthR s.holes k).length : Int))
theorem mem_sum_le : ∀ {l : List Nat} {x : Nat}, x ∈ l → x ≤ l.sum
  | y :: l, x, h => by
    rcases List.mem_cons.1 h with rfl | h
    · simp
    · have := mem_sum_le h; simp; omega
def fewW (s : Geo.Shape) : Bool := decide (fewN s s.holes.length ≤ 20) && decide ((s.holes.length : Int) ≤ 3)
def BigOk (s : Geo.Shape) : Prop := s.outer.length ≤ 1000000000000000000 ∧ s.holes.length ≤ 1000000000000000000 ∧ ∀ r ∈ s.holes, r.length ≤ 1000000000000000000
theorem fewN_small {s : Geo.Shape} (hB : BigOk s) : ∀ k, k ≤ s.holes.length → k ≤ 3 → fewN s k = (cornUp s k : Int) ∧ fewN s k ≤ 1000000000000000000 * ((k : Int) + 1)
  | 0, _, _ => by have := hB.1; rw [cornUp_zero]; exact ⟨rfl, by show (s.outer.length : Int) ≤ _; omega⟩
  | k + 1, h1, h2 => by
    obtain ⟨g1, g2⟩ := fewN_small hB k (by omega) (by omega)
    have h3 := hB.2.2 _ (Geo.nthR_mem (show k < s.holes.length by omega))
    have h4 : fewN s (k + 1) = IntKind.i64.wrap (fewN s k + ((nthR s.holes k).length : Int)) := rfl
    rw [h4, IntWalk.i64_in _ (by omega), cornUp_succ (by omega)]
    omega
theorem fewW_fit {s : Geo.Shape} (hB : BigOk s) (h : fewW s = true) : Fit s := by
  unfold fewW at h
  simp only [BI] at h
  have h1 := (fewN_small hB s.holes.length (Nat.le_refl _) (by omega)).1
  rw [h1, cornUp_all] at h
  have h2 : Geo.cornersS s ≤ 20 := by omega
  unfold Geo.cornersS at h2
  have h3 : ∀ r ∈ Geo.ringsS s, r.length ≤ 20 := fun r hr => Nat.le_trans (mem_sum_le (List.mem_map.2 ⟨r, hr, rfl⟩)) h2
  exact ⟨by have := h3 s.outer (by simp [Geo.ringsS]); omega, by omega, fun r hr => by have := h3 r (by simp [Geo.ringsS, hr]); omega⟩
def c24 : Con := con (ac (aL .S) (a1 (aL .S))) (fun (a, _) => [a.length ≤ 1000000]) (fun (a, b) => .bool (a == b))
theorem k24 : c24.Ok Tryz.prog 24 := con_ok (cx_ok t22o) (raw := noRaw) (fun (a, b) => [cnt 4 5 a.length (upto fun j => nthS a j = nthS b j)]
  ) (fun (_, _) => ⟨_, rfl⟩) fun (a, b) hp => by_vc (q := (¬ (a.length : Int) = b.length → false = (a == b)) ∧
 (¬ (¬ (a.length : Int) = b.length) → (0 = (0 : Int) ∧ (0 : Nat) ≤ a.length ∧ upto (fun j => nthS a j = nthS b j) 0) ∧
  (∀ x : Nat, x ≤ a.length ∧ upto (fun j => nthS a j = nthS b j) x → ((x : Int) < a.length → ix (x : Int) a.length ∧ ix (x : Int) b.length ∧ (¬ (nthS a x) = (nthS b x) → false = (a == b)) ∧
    (¬ (¬ (nthS a x) = (nthS b x)) → in64 ((x : Int) + 1) ∧ (x : Int) + 1 = ((x + 1 : Nat) : Int) ∧ x + 1 ≤ a.length ∧ upto (fun j => nthS a j = nthS b j) (x + 1) ∧ a.length - (x + 1) < a.length - x)) ∧
   (¬ (x : Int) < a.length → true = (a == b))))) (by kernel_rfl) (by
  change a.length ≤ 1000000 at hp
  have h1 : ¬ (a.length : Int) = b.length → false = (a == b) := fun h => by symm; rw [beq_eq_false_iff_ne]; intro e; subst e; omega
  have h2 : ∀ {x}, ¬ nthS a x = nthS b x → false = (a == b) := fun h => by symm; rw [beq_eq_false_iff_ne]; intro e; subst e; exact h rfl
  have h3 : ∀ x : Nat, ¬ (x : Int) < a.length → upto (fun j => nthS a j = nthS b j) x → ¬ ¬ (a.length : Int) = b.length → true = (a == b) := fun x h1 h2 h3 => by symm; rw [beq_iff_eq]; exact nthS_ext (by omega) fun j hj => h2 j (by omega)
  repeat' first | with_reducible apply And.intro | with_reducible intro
  all_goals repeat with_reducible cases ‹_ ∧ _›
  all_goals first | assumption | rfl | exact trivial | exact nb ‹_› | exact nb' ‹_› | omega | exact ix_mod (by omega) | (unfold ix; omega) | (unfold in64; omega) | exact upto_zero _ | exact upto_succ ‹_› ‹_› | (refine upto_succ ‹_› ?_; simp_all; done) | exact h1 ‹_› | exact h2 ‹_› | exact h3 _ ‹_› ‹_› ‹_› | exact upto_succ ‹_› (Decidable.of_not_not ‹¬ ¬ nthS _ _ = _›) | grind)
def t24 : Tab := tabL [(24, c24)] t22
theorem t24o : t24.Ok Tryz.prog := tabL_ok t22o ⟨k24, trivial⟩
def c25 : Con := con (ac (aL .R) (a1 (aL .R))) (fun (a, _) => [a.length ≤ 1000000, (∀ r ∈ a, r.length ≤ 100000)]) (fun (a, b) => .bool (a == b))
theorem k25 : c25.Ok Tryz.prog 25 := con_ok (cx_ok t24o) (raw := noRaw) (fun (a, b) => [cnt 4 5 a.length (upto fun j => nthR a j = nthR b j)]
  ) (fun (_, _) => ⟨_, rfl⟩) fun (a, b) hp => by_vc (q := (¬ (a.length : Int) = b.length → false = (a == b)) ∧
 (¬ (¬ (a.length : Int) = b.length) → (0 = (0 : Int) ∧ (0 : Nat) ≤ a.length ∧ upto (fun j => nthR a j = nthR b j) 0) ∧
  (∀ x : Nat, x ≤ a.length ∧ upto (fun j => nthR a j = nthR b j) x → ((x : Int) < a.length → ix (x : Int) a.length ∧ ix (x : Int) b.length ∧ (nthR a x).length ≤ 1000000 ∧ ((!nthR a x == nthR b x) = true → false = (a == b)) ∧
    ((!nthR a x == nthR b x) = false → in64 ((x : Int) + 1) ∧ (x : Int) + 1 = ((x + 1 : Nat) : Int) ∧ x + 1 ≤ a.length ∧ upto (fun j => nthR a j = nthR b j) (x + 1) ∧ a.length - (x + 1) < a.length - x)) ∧
   (¬ (x : Int) < a.length → true = (a == b))))) (by kernel_rfl) (by
  change a.length ≤ 1000000 ∧ ((∀ r ∈ a, r.length ≤ 100000)) at hp
  have h0 : ∀ x, x < a.length → (nthR a x).length ≤ 1000000 := fun x h => Nat.le_trans (hp.2 _ (Geo.nthR_mem h)) (by decide)
  have h1 : ¬ (a.length : Int) = b.length → false = (a == b) := fun h => by symm; rw [beq_eq_false_iff_ne]; intro e; subst e; omega
  have h2 : ∀ {x}, (!nthR a x == nthR b x) = true → false = (a == b) := fun h => by symm; rw [beq_eq_false_iff_ne]; intro e; subst e; simp at h
  have h3 : ∀ x : Nat, ¬ (x : Int) < a.length → upto (fun j => nthR a j = nthR b j) x → ¬ ¬ (a.length : Int) = b.length → true = (a == b) := fun x h1 h2 h3 => by symm; rw [beq_iff_eq]; exact nthR_ext (by omega) fun j hj => h2 j (by omega)
  have h4 : ∀ {x}, (!nthR a x == nthR b x) = false → nthR a x = nthR b x := fun h => by simpa using h
  repeat' first | with_reducible apply And.intro | with_reducible intro
  all_goals repeat with_reducible cases ‹_ ∧ _›
  all_goals first | assumption | rfl | exact trivial | exact nb ‹_› | exact nb' ‹_› | omega | exact ix_mod (by omega) | (unfold ix; omega) | (unfold in64; omega) | exact upto_zero _ | exact upto_succ ‹_› ‹_› | (refine upto_succ ‹_› ?_; simp_all; done) | exact h0 _ (by omega) | exact h1 ‹_› | exact h2 ‹_› | exact h3 _ ‹_› ‹_› ‹_› | exact upto_succ ‹_› (h4 ‹_›) | grind)
def t25 : Tab := tabL [(25, c25)] t24
theorem t25o : t25.Ok Tryz.prog := tabL_ok t24o ⟨k25, trivial⟩
def c16 : Con := con (a1 aSh) (fun s => [BigOk s]) (fun s => .bool (fewW s))
theorem k16 : c16.Ok Tryz.prog 16 := con_ok (cx_ok t25o) (raw := fun r i => Nat.beq r 5 && Nat.beq i 7) (fun s => [lp 3 4 s.holes.length (fun _ => []) [] (fun k => [(3, .int .i64 (fewN s k))]) (fun _ => [])]
  ) (fun _ => ⟨_, rfl⟩) fun s hp => by_vc (q := (0 = (0 : Int) ∧ (s.outer.length : Int) = fewN s 0 ∧ (0 : Nat) ≤ s.holes.length) ∧
 (∀ x : Nat, x ≤ s.holes.length → ((x : Int) < s.holes.length → ix (x : Int) s.holes.length ∧ in64 ((x : Int) + 1) ∧ (x : Int) + 1 = ((x + 1 : Nat) : Int) ∧ IntKind.wrap IntKind.i64 (fewN s x + (nthR s.holes x).length) = fewN s (x + 1) ∧ x + 1 ≤ s.holes.length ∧ s.holes.length - (x + 1) < s.holes.length - x) ∧
  (¬ (x : Int) < s.holes.length → (fewN s x ≤ 20 → decide ((s.holes.length : Int) ≤ 3) = fewW s) ∧
   (¬ fewN s x ≤ 20 → false = fewW s)))) (by kernel_rfl) (by
  change BigOk s at hp
  have hh := hp.2.1
  have e1 : ∀ k : Nat, ¬ (k : Int) < s.holes.length → k ≤ s.holes.length → fewN s k = fewN s s.holes.length := fun k h1 h2 => by rw [show k = s.holes.length by omega]
  have e2 : ∀ k : Nat, fewN s k ≤ 20 → ¬ (k : Int) < s.holes.length → k ≤ s.holes.length → decide ((s.holes.length : Int) ≤ 3) = fewW s := fun k h h1 h2 => by
    unfold fewW; rw [e1 k h1 h2] at h; rw [decide_eq_true h, Bool.true_and]
  have e3 : ∀ k : Nat, ¬ fewN s k ≤ 20 → ¬ (k : Int) < s.holes.length → k ≤ s.holes.length → false = fewW s := fun k h h1 h2 => by
    unfold fewW; rw [e1 k h1 h2] at h; rw [decide_eq_false h, Bool.false_and]
  repeat' first | with_reducible apply And.intro | with_reducible intro
  all_goals repeat with_reducible cases ‹_ ∧ _›
  all_goals first | assumption | rfl | exact trivial | exact nb ‹_› | exact nb' ‹_› | omega | exact ix_mod (by omega) | (unfold ix; omega) | (unfold in64; omega) | exact upto_zero _ | exact upto_succ ‹_› ‹_› | (refine upto_succ ‹_› ?_; simp_all; done) | exact e2 _ ‹_› ‹_› ‹_› | exact e3 _ ‹_› ‹_› ‹_› | grind)
def t16 : Tab := tabL [(16, c16)] t25
theorem t16o : t16.Ok Tryz.prog := tabL_ok t25o ⟨k16, trivial⟩
end
end Go.Proofs.YtdaeofhdgabhjaaGreat
namespace Go.Proofs.YtdaeofhdgabhjaaGreat
open Go.RowKit
set_option maxRecDepth 100000
noncomputable section
open Geo (nth)
def c184 : Con := con (a1 aI) (fun _ => []) (fun _ => .bool false
  )
theorem k184 : c184.Ok Tryz.prog 184 := con_ok (cx_ok t16o) (raw := noRaw) (fun _ => []) (fun _ => ⟨_, rfl⟩) fun x _ => by_vc (q := decide (¬ x = x) = false) (by kernel_rfl) (by
  repeat' first | with_reducible apply And.intro | with_reducible intro
  all_goals repeat with_reducible cases ‹_ ∧ _›
  all_goals first | assumption | rfl | exact trivial | exact nb ‹_› | exact nb' ‹_› | omega | exact ix_mod (by omega) | (unfold ix; omega) | (unfold in64; omega) | exact upto_zero _ | exact upto_succ ‹_› ‹_› | (refine upto_succ ‹_› ?_; simp_all; done) | simp | grind)
def t184 : Tab := tabL [(184, c184)] t16
theorem t184o : t184.Ok Tryz.prog := tabL_ok t16o ⟨k184, trivial⟩
def c137 : Con := con (ac aI (a1 aI)) (fun (_, _) => []) (fun (x, y) => .int .i64 (Geo.cmpI x y)
  )
theorem k137 : c137.Ok Tryz.prog 137 := con_ok (cx_ok t184o) (raw := noRaw) (fun (_, _) => []) (fun (_, _) => ⟨_, rfl⟩) fun (x, y) _ => by_vc (q := (false = true → (false = true → 0 = Geo.cmpI x y) ∧
  (false = false → -1 = Geo.cmpI x y)) ∧
 (false = false → (false = true → 1 = Geo.cmpI x y) ∧
  (false = false → (x < y → -1 = Geo.cmpI x y) ∧
   (¬ x < y → (y < x → 1 = Geo.cmpI x y) ∧
    (¬ y < x → 0 = Geo.cmpI x y))))) (by kernel_rfl) (by
  unfold Geo.cmpI; grind)
def t137 : Tab := tabL [(137, c137)] t184
theorem t137o : t137.Ok Tryz.prog := tabL_ok t184o ⟨k137, trivial⟩
def orU (l : List Int) (k : Nat) : Prop := ∀ j, j < k → nthI l j = 0
def orL : List Int → Int
  | [] => 0
  | x :: l => if x = 0 then orL l else x
theorem orL_at : ∀ {l : List Int} {k : Nat}, ¬ nthI l k = 0 → orU l k → k < l.length → nthI l k = orL l
  | [], k, _, _, h => by simp at h
  | x :: l, 0, h, _, _ => by
    have h : ¬ x = 0 := h
    show x = orL (x :: l); unfold orL; rw [if_neg h]
  | x :: l, k + 1, h, h2, h3 => by
    have h0 : x = 0 := h2 0 (by omega)
    show nthI l k = orL (x :: l); unfold orL; rw [if_pos h0]
    exact orL_at h (fun j hj => h2 (j + 1) (by omega)) (by simpa using h3)
theorem orL_end : ∀ {l : List Int}, orU l l.length → 0 = orL l
  | [], _ => rfl
  | x :: l, h => by
    have h0 : x = 0 := h 0 (by simp)
    unfold orL; rw [if_pos h0]
    exact orL_end fun j hj => h (j + 1) (by simpa using hj)
def c148 : Con := con (a1 (aL .I)) (fun l => [l.length ≤ 1000]) (fun l => .int .i64 (orL l))
theorem k148 : c148.Ok Tryz.prog 148 := con_ok (cx_ok t137o) (raw := noRaw) (fun l => [cnt 3 8 l.length (orU l)]
  ) (fun _ => ⟨_, rfl⟩) fun l hp => by_vc (q := (0 = (0 : Int) ∧ (0 : Nat) ≤ l.length ∧ orU l 0) ∧
 (∀ x : Nat, x ≤ l.length ∧ orU l x → ((x : Int) < l.length → ix (x : Int) l.length ∧ (¬ nthI l x = 0 → nthI l x = orL l) ∧
   (¬ (¬ nthI l x = 0) → in64 ((x : Int) + 1) ∧ (x : Int) + 1 = ((x + 1 : Nat) : Int) ∧ x + 1 ≤ l.length ∧ orU l (x + 1) ∧ l.length - (x + 1) < l.length - x)) ∧
  (¬ (x : Int) < l.length → 0 = orL l))) (by kernel_rfl) (by
  change l.length ≤ 1000 at hp
  repeat' first | with_reducible apply And.intro | with_reducible intro
  all_goals repeat with_reducible cases ‹_ ∧ _›
  all_goals first | assumption | rfl | exact trivial | exact nb ‹_› | exact nb' ‹_› | omega | exact ix_mod (by omega) | (unfold ix; omega) | (unfold in64; omega) | exact upto_zero _ | exact upto_succ ‹_› ‹_› | (refine upto_succ ‹_› ?_; simp_all; done) | exact orL_at ‹_› ‹_› (by omega) | (obtain rfl : _ = l.length := Nat.le_antisymm ‹_› (by omega); exact orL_end ‹_›) | (refine upto_succ ‹_› ?_; exact Decidable.of_not_not ‹¬ ¬ _›) | grind)
def t148 : Tab := tabL [(148, c148)] t137
theorem t148o : t148.Ok Tryz.prog := tabL_ok t137o ⟨k148, trivial⟩
def c78 : Con := con (ac aV (a1 aV)) (fun (_, _) => []) (fun (a, b) => .int .i64 (Geo.cmpV a b)
  )
theorem k78 : c78.Ok Tryz.prog 78 := con_ok (cx_ok t148o) (raw := noRaw) (fun (_, _) => []) (fun (_, _) => ⟨_, rfl⟩) fun (a, b) _ => by_vc (q := [Geo.cmpI a.y b.y, Geo.cmpI a.x b.x].length ≤ 1000 ∧ orL [Geo.cmpI a.y b.y, Geo.cmpI a.x b.x] = Geo.cmpV a b) (by kernel_rfl) (by
  refine ⟨by simp, ?_⟩
  unfold Geo.cmpV; simp only [orL]; grind)
def t78 : Tab := tabL [(78, c78)] t148
theorem t78o : t78.Ok Tryz.prog := tabL_ok t148o ⟨k78, trivial⟩
def c220 : Con := con (ac aV (a1 aV)) (fun (_, _) => []) (fun (a, b) => .bool (Geo.lessV a b)
  )
theorem k220 : c220.Ok Tryz.prog 220 := con_ok (cx_ok t78o) (raw := noRaw) (fun (_, _) => []) (fun (_, _) => ⟨_, rfl⟩) fun (a, b) _ => by_vc (q := decide (Geo.cmpV a b < 0) = Geo.lessV a b) (by kernel_rfl) (by
  unfold Geo.lessV Geo.cmpV Geo.cmpI; grind)
def t220 : Tab := tabL [(220, c220)] t78
theorem t220o : t220.Ok Tryz.prog := tabL_ok t78o ⟨k220, trivial⟩
def c111 : Con := con (ac aV (a1 aV)) (fun (a, b) => [bd 2000000000 a, bd 2000000000 b]) (fun (a, b) => .int .i64 (Geo.cross a b)
  )
theorem k111 : c111.Ok Tryz.prog 111 := con_ok (cx_ok t220o) (raw := noRaw) (fun (_, _) => []) (fun (_, _) => ⟨_, rfl⟩) fun (a, b) hp => by_vc (q := in64 (a.x * b.y) ∧ in64 (a.y * b.x) ∧ in64 (a.x * b.y - a.y * b.x) ∧ a.x * b.y - a.y * b.x = Geo.cross a b) (by kernel_rfl) (by
  change bd 2000000000 a ∧ bd 2000000000 b at hp
  have := cross_bd hp.1 hp.2
  exact ⟨i64w (by omega), i64w (by omega), i64w (by omega), rfl⟩)
def t111 : Tab := tabL [(111, c111)] t220
theorem t111o : t111.Ok Tryz.prog := tabL_ok t220o ⟨k111, trivial⟩
def c138 : Con := con (ac aV (a1 aV)) (fun (a, b) => [bd 1000000000 a, bd 1000000000 b]) (fun (a, b) => aV.enc (Geo.sub a b)
  )
theorem k138 : c138.Ok Tryz.prog 138 := con_ok (cx_ok t111o) (raw := noRaw) (fun (_, _) => []) (fun (_, _) => ⟨_, rfl⟩) fun (a, b) hp => by_vc (q := in64 (a.x - b.x) ∧ in64 (a.y - b.y) ∧ a.x - b.x = (Geo.sub a b).x ∧ a.y - b.y = (Geo.sub a b).y) (by kernel_rfl) (by
  change bd 1000000000 a ∧ bd 1000000000 b at hp
  unfold bd at hp
  exact ⟨i64w (by omega), i64w (by omega), rfl, rfl⟩)
def t138 : Tab := tabL [(138, c138)] t111
theorem t138o : t138.Ok Tryz.prog := tabL_ok t111o ⟨k138, trivial⟩
def c63 : Con := con (ac aV (ac aV (a1 aV))) (fun (a, b, c) => [bd 1000000000 a, bd 1000000000 b, bd 1000000000 c]) (fun (a, b, c) => .int .i64 (Geo.turn a b c)
  )
theorem k63 : c63.Ok Tryz.prog 63 := con_ok (cx_ok t138o) (raw := noRaw) (fun (_, _, _) => []) (fun (_, _, _) => ⟨_, rfl⟩) fun (a, b, c) hp => by_vc (q := bd 1000000000 b ∧ bd 1000000000 a ∧ bd 1000000000 c ∧ bd 1000000000 a ∧ bd 2000000000 (Geo.sub b a) ∧ bd 2000000000 (Geo.sub c a) ∧ Geo.cmpI (Geo.cross (Geo.sub b a) (Geo.sub c a)) 0 = Geo.turn a b c) (by kernel_rfl) (by
  change bd 1000000000 a ∧ bd 1000000000 b ∧ bd 1000000000 c at hp
  have e : ∀ n, Geo.cmpI n 0 = Geo.sgn n := fun n => by unfold Geo.cmpI Geo.sgn; grind
  exact ⟨hp.2.1, hp.1, hp.2.2, hp.1, sub_bd hp.2.1 hp.1, sub_bd hp.2.2 hp.1, e _⟩)
def t63 : Tab := tabL [(63, c63)] t138
theorem t63o : t63.Ok Tryz.prog := tabL_ok t138o ⟨k63, trivial⟩
def c139 : Con := con (ac aV (a1 aI)) (fun (_, m) => [0 ≤ m, m ≤ 9000000000000000000]) (fun (a, m) => .bool (Geo.within a m)
  )
theorem k139 : c139.Ok Tryz.prog 139 := con_ok (cx_ok t63o) (raw := noRaw) (fun (_, _) => []) (fun (_, _) => ⟨_, rfl⟩) fun (a, m) hp => by_vc (q := in64 (0 - m) ∧ (0 - m ≤ a.x → (a.x ≤ m → in64 (0 - m) ∧ (0 - m ≤ a.y → decide (a.y ≤ m) = Geo.within a m) ∧
   (¬ 0 - m ≤ a.y → false = Geo.within a m)) ∧
  (¬ a.x ≤ m → false = Geo.within a m)) ∧
 (¬ 0 - m ≤ a.x → false = Geo.within a m)) (by kernel_rfl) (by
  change 0 ≤ m ∧ m ≤ 9000000000000000000 at hp
  unfold Geo.within; have := @in64; grind [in64])
def t139 : Tab := tabL [(139, c139)] t63
theorem t139o : t139.Ok Tryz.prog := tabL_ok t63o ⟨k139, trivial⟩
def c141 : Con := con (a1 aV) (fun _ => []) (fun a => aT.enc (Geo.ptOf a)
  )
theorem k141 : c141.Ok Tryz.prog 141 := con_ok (cx_ok t139o) (raw := noRaw) (fun _ => []) (fun _ => ⟨_, rfl⟩) fun a _ => by_vc (q := a.x = (Geo.ptOf a).x ∧ a.y = (Geo.ptOf a).y ∧ 1 = (Geo.ptOf a).den) (by kernel_rfl) (by
  exact ⟨rfl, rfl, rfl⟩)
def t141 : Tab := tabL [(141, c141)] t139
theorem t141o : t141.Ok Tryz.prog := tabL_ok t139o ⟨k141, trivial⟩
def inBx (b : Geo.S) (p : Geo.V) : Bool := decide (b.a.x ≤ p.x) && decide (p.x ≤ b.b.x) && decide (b.a.y ≤ p.y) && decide (p.y ≤ b.b.y)
def bU (l : List Geo.V) : Nat → Geo.S
  | 0 => ⟨nth l 0, nth l 0⟩
  | k + 1 => ⟨⟨min (bU l k).a.x (nth l k).x, min (bU l k).a.y (nth l k).y⟩, ⟨max (bU l k).b.x (nth l k).x, max (bU l k).b.y (nth l k).y⟩⟩
def c228 : Con := con (ac aS (a1 aV)) (fun (_, _) => []) (fun (b, p) => .bool (inBx b p)
  )
theorem k228 : c228.Ok Tryz.prog 228 := con_ok (cx_ok t141o) (raw := noRaw) (fun (_, _) => []) (fun (_, _) => ⟨_, rfl⟩) fun (b, p) _ => by_vc (q := (b.a.x ≤ p.x → (p.x ≤ b.b.x → (b.a.y ≤ p.y → decide (p.y ≤ b.b.y) = inBx b p) ∧
   (¬ b.a.y ≤ p.y → false = inBx b p)) ∧
  (¬ p.x ≤ b.b.x → false = inBx b p)) ∧
 (¬ b.a.x ≤ p.x → false = inBx b p)) (by kernel_rfl) (by
  unfold inBx; grind)
def t228 : Tab := tabL [(228, c228)] t141
theorem t228o : t228.Ok Tryz.prog := tabL_ok t141o ⟨k228, trivial⟩
def c227 : Con := con (a1 (aL .V)) (fun l => [l.length ≤ 1000]) (fun l => .tup [aS.enc (bU l l.length), .bool (decide (0 < l.length))])
theorem k227 : c227.Ok Tryz.prog 227 := con_ok (cx_ok t228o) (raw := noRaw) (fun l => [lp 5 19 l.length (fun _ => []) [] (fun _ => []) (fun k => [(12, .box 196 [.int .i64 (bU l k).a.x, .int .i64 (bU l k).a.y, .int .i64 (bU l k).b.x, .int .i64 (bU l k).b.y])])]
  ) (fun _ => ⟨_, rfl⟩) fun l hp => by_vc (q := ((l.length : Int) = 0 → 0 = (bU l l.length).a.x ∧ 0 = (bU l l.length).a.y ∧ 0 = (bU l l.length).b.x ∧ 0 = (bU l l.length).b.y ∧ false = decide ((0 : Nat) < l.length)) ∧
 (¬ (l.length : Int) = 0 → ix 0 l.length ∧ ix 0 l.length ∧ (0 = (0 : Int) ∧ (nth l 0).x = (bU l 0).a.x ∧ (nth l 0).y = (bU l 0).a.y ∧ (nth l 0).x = (bU l 0).b.x ∧ (nth l 0).y = (bU l 0).b.y ∧ (0 : Nat) ≤ l.length) ∧
  (∀ x : Nat, x ≤ l.length → ((x : Int) < l.length → ix (x : Int) l.length ∧ ix (x : Int) l.length ∧ ix (x : Int) l.length ∧ ix (x : Int) l.length ∧ in64 ((x : Int) + 1) ∧ (x : Int) + 1 = ((x + 1 : Nat) : Int) ∧ Min.min (bU l x).a.x (nth l x).x = (bU l (x + 1)).a.x ∧ Min.min (bU l x).a.y (nth l x).y = (bU l (x + 1)).a.y ∧ Max.max (bU l x).b.x (nth l x).x = (bU l (x + 1)).b.x ∧ Max.max (bU l x).b.y (nth l x).y = (bU l (x + 1)).b.y ∧ x + 1 ≤ l.length ∧ l.length - (x + 1) < l.length - x) ∧
   (¬ (x : Int) < l.length → (bU l x).a.x = (bU l l.length).a.x ∧ (bU l x).a.y = (bU l l.length).a.y ∧ (bU l x).b.x = (bU l l.length).b.x ∧ (bU l x).b.y = (bU l l.length).b.y ∧ true = decide ((0 : Nat) < l.length))))) (by kernel_rfl) (by
  change l.length ≤ 1000 at hp
  have eU : ∀ x : Nat, ¬ (x : Int) < l.length → x ≤ l.length → bU l x = bU l l.length := fun x h1 h2 => by rw [show x = l.length by omega]
  repeat' first | with_reducible apply And.intro | with_reducible intro
  all_goals repeat with_reducible cases ‹_ ∧ _›
  all_goals first | assumption | rfl | exact trivial | exact nb ‹_› | exact nb' ‹_› | omega | exact ix_mod (by omega) | (unfold ix; omega) | (unfold in64; omega) | exact upto_zero _ | exact upto_succ ‹_› ‹_› | (refine upto_succ ‹_› ?_; simp_all; done) | (have h0 : l = [] := List.length_eq_zero_iff.1 (by omega); subst h0; rfl) | (rw [eU _ ‹_› ‹_›]) | (symm; rw [decide_eq_true_eq]; omega) | (symm; rw [decide_eq_false_iff_not]; omega) | grind)
def t227 : Tab := tabL [(227, c227)] t228
theorem t227o : t227.Ok Tryz.prog := tabL_ok t228o ⟨k227, trivial⟩
def c209 : Con := con (ac aI (a1 aI)) (fun (a, b) => [-9000000000000000000 ≤ a, a ≤ 9000000000000000000, -9000000000000000000 ≤ b, b ≤ 9000000000000000000]) (fun (a, b) => .int .i64 ((Nat.gcd a.natAbs b.natAbs : Nat) : Int))
theorem k209 : c209.Ok Tryz.prog 209 := con_ok (cx_ok t227o) (raw := noRaw) (fun (a, b) => [(1, .mk (Int × Int) (fun F _ => int2 F 0 1) [] (fun p => [p.1.natAbs ≤ 9000000000000000000, p.2.natAbs ≤ 9000000000000000000, Nat.gcd p.1.natAbs p.2.natAbs = Nat.gcd a.natAbs b.natAbs]) (fun p => [(0, .int .i64 p.1), (1, .int .i64 p.2)]) (fun _ => []) (fun p => p.2.natAbs) (fun _ => []))]
  ) (fun (_, _) => ⟨_, rfl⟩) fun (a, b) hp => by_vc (q := (a = a ∧ b = b ∧ Int.natAbs a ≤ 9000000000000000000 ∧ Int.natAbs b ≤ 9000000000000000000 ∧ Nat.gcd (Int.natAbs a) (Int.natAbs b) = Nat.gcd (Int.natAbs a) (Int.natAbs b)) ∧
 (∀ x : Prod Int Int, Int.natAbs x.1 ≤ 9000000000000000000 ∧ Int.natAbs x.2 ≤ 9000000000000000000 ∧ Nat.gcd (Int.natAbs x.1) (Int.natAbs x.2) = Nat.gcd (Int.natAbs a) (Int.natAbs b) → (¬ x.2 = 0 → x.2 ≠ 0 ∧ x.2 = x.2 ∧ Int.tmod x.1 x.2 = Int.tmod x.1 x.2 ∧ Int.natAbs x.snd ≤ 9000000000000000000 ∧ Int.natAbs (Int.tmod x.1 x.2) ≤ 9000000000000000000 ∧ Nat.gcd (Int.natAbs x.snd) (Int.natAbs (Int.tmod x.1 x.2)) = Nat.gcd (Int.natAbs a) (Int.natAbs b) ∧ Int.natAbs (Int.tmod x.1 x.2) < Int.natAbs x.2) ∧
  (¬ (¬ x.2 = 0) → in64 (0 - x.1) ∧ Max.max x.1 (0 - x.1) = Nat.gcd (Int.natAbs a) (Int.natAbs b)))) (by kernel_rfl) (by
  change -9000000000000000000 ≤ a ∧ a ≤ 9000000000000000000 ∧ -9000000000000000000 ≤ b ∧ b ≤ 9000000000000000000 at hp
  have e1 : ∀ x y : Int, Nat.gcd y.natAbs (Int.tmod x y).natAbs = Nat.gcd x.natAbs y.natAbs := fun x y => by
    rw [Int.natAbs_tmod, Nat.gcd_comm, ← Nat.gcd_rec, Nat.gcd_comm]
  have e2 : ∀ x y : Int, ¬ y = 0 → (Int.tmod x y).natAbs < y.natAbs := fun x y h => by
    rw [Int.natAbs_tmod]; exact Nat.mod_lt _ (by omega)
  have e3 : ∀ (x y : Int) (g : Nat), Nat.gcd x.natAbs y.natAbs = g → ¬ ¬ y = 0 → max x (0 - x) = (g : Int) := fun x y g h h2 => by
    rw [Decidable.of_not_not h2] at h; rw [← h]; simp; omega
  repeat' first | with_reducible apply And.intro | with_reducible intro
  all_goals repeat with_reducible cases ‹_ ∧ _›
  all_goals first | assumption | rfl | exact trivial | exact nb ‹_› | exact nb' ‹_› | omega | exact ix_mod (by omega) | (unfold ix; omega) | (unfold in64; omega) | exact upto_zero _ | exact upto_succ ‹_› ‹_› | (refine upto_succ ‹_› ?_; simp_all; done) | exact e2 _ _ ‹_› | exact e3 _ _ _ ‹_› ‹_› | (rw [e1]; assumption) | exact Nat.le_trans (Nat.le_of_lt (e2 _ _ ‹_›)) ‹_› | grind)
def t209 : Tab := tabL [(209, c209)] t227
theorem t209o : t209.Ok Tryz.prog := tabL_ok t227o ⟨k209, trivial⟩
def c208 : Con := con (ac aT (a1 aI)) (fun (_, m) => [0 ≤ m, m ≤ 1000000]) (fun (p, m) => .bool (Geo.boundedP p m)
  )
theorem k208 : c208.Ok Tryz.prog 208 := con_ok (cx_ok t209o) (raw := noRaw) (fun (_, _) => []) (fun (_, _) => ⟨_, rfl⟩) fun (p, m) hp => by_vc (q := (p.den < 1 → false = Geo.boundedP p m) ∧
 (¬ p.den < 1 → (134217728 < p.den → false = Geo.boundedP p m) ∧
  (¬ 134217728 < p.den → in64 (m * p.den) ∧ 0 ≤ m * p.den ∧ m * p.den ≤ 9000000000000000000 ∧ Geo.within ⟨p.x, p.y⟩ (m * p.den) = Geo.boundedP p m))) (by kernel_rfl) (by
  change 0 ≤ m ∧ m ≤ 1000000 at hp
  unfold Geo.boundedP
  have hm : ¬ p.den < 1 → ¬ 134217728 < p.den → in64 (m * p.den) ∧ 0 ≤ m * p.den ∧ m * p.den ≤ 9000000000000000000 := fun h1 h2 => by
    have := mul_bd (x := m) (y := p.den) (A := 1000000) (B := 134217728) (by omega) (by omega)
    exact ⟨i64w (by omega), Int.mul_nonneg hp.1 (by omega), by omega⟩
  repeat' first | with_reducible apply And.intro | with_reducible intro
  all_goals repeat with_reducible cases ‹_ ∧ _›
  all_goals first | assumption | rfl | exact trivial | exact nb ‹_› | exact nb' ‹_› | omega | exact ix_mod (by omega) | (unfold ix; omega) | (unfold in64; omega) | exact upto_zero _ | exact upto_succ ‹_› ‹_› | (refine upto_succ ‹_› ?_; simp_all; done) | exact (hm ‹_› ‹_›).1 | exact (hm ‹_› ‹_›).2.1 | exact (hm ‹_› ‹_›).2.2 | grind)
def t208 : Tab := tabL [(208, c208)] t209
theorem t208o : t208.Ok Tryz.prog := tabL_ok t209o ⟨k208, trivial⟩
def c185 : Con := con (a1 aT) (fun _ => []) (fun p => .bool (Geo.validPt p)
  )
theorem k185 : c185.Ok Tryz.prog 185 := con_ok (cx_ok t208o) (raw := noRaw) (fun _ => []) (fun _ => ⟨_, rfl⟩) fun p _ => by_vc (q := (0 : Int) ≤ 4000 ∧ (4000 : Int) ≤ 1000000 ∧ (Geo.boundedP p 4000 = true → -9000000000000000000 ≤ p.x ∧ p.x ≤ 9000000000000000000 ∧ -9000000000000000000 ≤ p.y ∧ p.y ≤ 9000000000000000000 ∧ -9000000000000000000 ≤ (Nat.gcd (Int.natAbs p.x) (Int.natAbs p.y) : Int) ∧ (Nat.gcd (Int.natAbs p.x) (Int.natAbs p.y) : Int) ≤ 9000000000000000000 ∧ -9000000000000000000 ≤ p.den ∧ p.den ≤ 9000000000000000000 ∧ decide ((Nat.gcd (Int.natAbs (Nat.gcd (Int.natAbs p.x) (Int.natAbs p.y) : Int)) (Int.natAbs p.den) : Int) = 1) = Geo.validPt p) ∧
 (Geo.boundedP p 4000 = false → false = Geo.validPt p)) (by kernel_rfl) (by
  have hB : Geo.boundedP p 4000 = true → PtB p := fun h => by
    unfold Geo.boundedP Geo.within at h
    simp only [Bool.and_eq_true, decide_eq_true_eq] at h
    unfold PtB; omega
  have hn : ∀ n m B : Nat, n ≤ B → m ≤ B → Nat.gcd n m ≤ B := fun n m B h1 h2 => by
    rcases Nat.eq_zero_or_pos n with e | e
    · rw [e, Nat.gcd_zero_left]; exact h2
    · exact Nat.le_trans (Nat.gcd_le_left m e) h1
  have hg : PtB p → Nat.gcd p.x.natAbs p.y.natAbs ≤ 600000000000 := fun h => hn _ _ _ (by unfold PtB at h; omega) (by unfold PtB at h; omega)
  have ht : Geo.boundedP p 4000 = true → decide ((Nat.gcd (Int.natAbs (Nat.gcd (Int.natAbs p.x) (Int.natAbs p.y) : Int)) (Int.natAbs p.den) : Int) = 1) = Geo.validPt p := fun h => by
    unfold Geo.validPt; rw [h, Bool.true_and, Int.natAbs_natCast, Bool.eq_iff_iff, decide_eq_true_eq, beq_iff_eq]; omega
  repeat' first | with_reducible apply And.intro | with_reducible intro
  all_goals repeat with_reducible cases ‹_ ∧ _›
  all_goals first | assumption | rfl | exact trivial | exact nb ‹_› | exact nb' ‹_› | omega | exact ix_mod (by omega) | (unfold ix; omega) | (unfold in64; omega) | exact upto_zero _ | exact upto_succ ‹_› ‹_› | (refine upto_succ ‹_› ?_; simp_all; done) | exact ht ‹_› | (have h1 := hB ‹_›; have h2 := hg h1; unfold PtB at h1; omega) | (unfold Geo.validPt; rw [‹Geo.boundedP p 4000 = false›, Bool.false_and]) | grind)
def t185 : Tab := tabL [(185, c185)] t208
theorem t185o : t185.Ok Tryz.prog := tabL_ok t208o ⟨k185, trivial⟩
def c216 : Con := con (a1 aS) (fun _ => []) (fun s => .bool (Geo.validS s)
  )
theorem k216 : c216.Ok Tryz.prog 216 := con_ok (cx_ok t185o) (raw := noRaw) (fun _ => []) (fun _ => ⟨_, rfl⟩) fun s _ => by_vc (q := (0 : Int) ≤ 4000 ∧ (4000 : Int) ≤ 9000000000000000000 ∧ (Geo.within s.a 4000 = true → (0 : Int) ≤ 4000 ∧ (4000 : Int) ≤ 9000000000000000000 ∧ Geo.within s.b 4000 = Geo.validS s) ∧
 (Geo.within s.a 4000 = false → false = Geo.validS s)) (by kernel_rfl) (by
  unfold Geo.validS; grind)
def t216 : Tab := tabL [(216, c216)] t185
theorem t216o : t216.Ok Tryz.prog := tabL_ok t185o ⟨k216, trivial⟩
def c218 : Con := con (ac aS (a1 aV)) (fun (_, _) => []) (fun (s, p) => .bool (Geo.onS s p)
  )
theorem k218 : c218.Ok Tryz.prog 218 := con_ok (cx_ok t216o) (raw := noRaw) (fun (_, _) => []) (fun (_, _) => ⟨_, rfl⟩) fun (s, p) _ => by_vc (q := [s.a, s.b].length ≤ 1000 ∧ (Geo.validS s = true → (inBx (bU [s.a, s.b] [s.a, s.b].length) p = true → bd 1000000000 s.a ∧ bd 1000000000 s.b ∧ bd 1000000000 p ∧ decide (Geo.turn s.a s.b p = 0) = Geo.onS s p) ∧
  (inBx (bU [s.a, s.b] [s.a, s.b].length) p = false → false = Geo.onS s p)) ∧
 (Geo.validS s = false → false = Geo.onS s p)) (by kernel_rfl) (by
  have e0 : inBx (bU [s.a, s.b] [s.a, s.b].length) p = Geo.inBox s p := by
    show (decide (min (min s.a.x s.a.x) s.b.x ≤ p.x) && decide (p.x ≤ max (max s.a.x s.a.x) s.b.x) && decide (min (min s.a.y s.a.y) s.b.y ≤ p.y) && decide (p.y ≤ max (max s.a.y s.a.y) s.b.y)) = _
    rw [Int.min_self, Int.min_self, Int.max_self, Int.max_self]; rfl
  rw [e0]
  have hv : ∀ {M : Int}, Geo.validS s = true → 4000 ≤ M → bd M s.a ∧ bd M s.b := fun h hM => vS_bd (by rw [h]; rfl) hM
  refine ⟨by simp, fun h => ⟨fun h2 => ⟨(hv h (by decide)).1, (hv h (by decide)).2, inB_bd (hv h (by decide)) h2, ?_⟩, fun h2 => by unfold Geo.onS; rw [h2]; simp⟩, fun h => by unfold Geo.onS; rw [h]; rfl⟩
  unfold Geo.onS; rw [h, h2]; rfl)
def t218 : Tab := tabL [(218, c218)] t216
theorem t218o : t218.Ok Tryz.prog := tabL_ok t216o ⟨k218, trivial⟩
def c219 : Con := con (a1 aV) (fun _ => []) (fun p => .agg [.int .i64 1, .int .i64 p.x, .int .i64 p.y, .int .i64 1, .int .i64 0, .int .i64 0, .int .i64 0, .int .i64 0]
  )
theorem k219 : c219.Ok Tryz.prog 219 := con_ok (cx_ok t218o) (raw := noRaw) (fun _ => []) (fun _ => ⟨_, rfl⟩) fun p _ => by_vc (q := (1 : Int) = 1 ∧ (Geo.ptOf p).x = p.x ∧ (Geo.ptOf p).y = p.y ∧ (Geo.ptOf p).den = 1 ∧ (0 : Int) = 0 ∧ (0 : Int) = 0 ∧ (0 : Int) = 0 ∧ (0 : Int) = 0) (by kernel_rfl) (by
  repeat' first | with_reducible apply And.intro | with_reducible intro
  all_goals repeat with_reducible cases ‹_ ∧ _›
  all_goals first | assumption | rfl | exact trivial | exact nb ‹_› | exact nb' ‹_› | omega | exact ix_mod (by omega) | (unfold ix; omega) | (unfold in64; omega) | exact upto_zero _ | exact upto_succ ‹_› ‹_› | (refine upto_succ ‹_› ?_; simp_all; done) | grind)
def t219 : Tab := tabL [(219, c219)] t218
theorem t219o : t219.Ok Tryz.prog := tabL_ok t218o ⟨k219, trivial⟩
end
end Go.Proofs.YtdaeofhdgabhjaaGreat
namespace Go.Proofs.YtdaeofhdgabhjaaGreat
open Go.RowKit
set_option maxRecDepth 100000
noncomputable section
structure Com where
  k : Int
  p : Geo.Pt
  s : Geo.S
def aCom (c : Com) : SV := .agg [.int .i64 c.k, .int .i64 c.p.x, .int .i64 c.p.y, .int .i64 c.p.den, .int .i64 c.s.a.x, .int .i64 c.s.a.y, .int .i64 c.s.b.x, .int .i64 c.s.b.y]
def cz : Com := ⟨0, ⟨0, 0, 0⟩, ⟨⟨0, 0⟩, ⟨0, 0⟩⟩⟩
def lA (s t : Geo.S) (d : Int) : Int := if d < 0 then -Geo.cross (Geo.sub t.a s.a) (Geo.sub t.b t.a) else Geo.cross (Geo.sub t.a s.a) (Geo.sub t.b t.a)
def lB (s t : Geo.S) (d : Int) : Int := if d < 0 then -Geo.cross (Geo.sub t.a s.a) (Geo.sub s.b s.a) else Geo.cross (Geo.sub t.a s.a) (Geo.sub s.b s.a)
def lE (d : Int) : Int := if d < 0 then -d else d
def lX (s t : Geo.S) (d : Int) : Int := s.a.x * lE d + lA s t d * (Geo.sub s.b s.a).x
def lY (s t : Geo.S) (d : Int) : Int := s.a.y * lE d + lA s t d * (Geo.sub s.b s.a).y
def lG (s t : Geo.S) (d : Int) : Int := ((Nat.gcd (Nat.gcd (lX s t d).natAbs (lY s t d).natAbs : Int).natAbs (lE d).natAbs : Nat) : Int)
def linesC (s t : Geo.S) (d : Int) : Com := if Geo.linesK s t d = 0 then cz else ⟨Geo.linesK s t d, ⟨(lX s t d).tdiv (lG s t d), (lY s t d).tdiv (lG s t d), (lE d).tdiv (lG s t d)⟩, cz.s⟩
def jO (key : Nat) (obs : List (Nat × SOb)) : Nat × Ann := (key + 10000, .mk Unit (fun _ _ => some ()) [] (fun _ => []) (fun _ => []) (fun _ => obs) (fun _ => 0) (fun _ => []))
def comS (c : Com) : List SV := [.int .i64 c.k, .int .i64 c.p.x, .int .i64 c.p.y, .int .i64 c.p.den, .int .i64 c.s.a.x, .int .i64 c.s.a.y, .int .i64 c.s.b.x, .int .i64 c.s.b.y]
theorem tdivZ_bd {x g B : Int} (h : -B ≤ x ∧ x ≤ B) : -B ≤ x.tdiv g ∧ x.tdiv g ≤ B := by
  have := Int.natAbs_tdiv_le_natAbs x g; omega
theorem gcd_bd {n m B : Nat} (h1 : n ≤ B) (h2 : m ≤ B) : Nat.gcd n m ≤ B := by
  rcases Nat.eq_zero_or_pos n with e | e
  · rw [e, Nat.gcd_zero_left]; exact h2
  · exact Nat.le_trans (Nat.gcd_le_left m e) h1
theorem linesC_no {s t : Geo.S} {d : Int} (h : lA s t d < 0 ∨ lE d < lA s t d ∨ lB s t d < 0 ∨ lE d < lB s t d) : linesC s t d = cz := if_pos (if_pos h)
theorem linesK_yes {s t : Geo.S} {d : Int} (h1 : ¬ lA s t d < 0) (h2 : ¬ lE d < lA s t d) (h3 : ¬ lB s t d < 0) (h4 : ¬ lE d < lB s t d) : Geo.linesK s t d = if lA s t d = 0 ∨ lA s t d = lE d ∨ lB s t d = 0 ∨ lB s t d = lE d then 1 else 2 := if_neg (by simp only [not_or]; exact ⟨h1, h2, h3, h4⟩)
theorem linesC_yes {s t : Geo.S} {d k : Int} (h : Geo.linesK s t d = k) (hk : k ≠ 0) : linesC s t d = ⟨k, ⟨(lX s t d).tdiv (lG s t d), (lY s t d).tdiv (lG s t d), (lE d).tdiv (lG s t d)⟩, cz.s⟩ := by
  unfold linesC; rw [h, if_neg hk]
def c217 : Con := con (ac aS (ac aS (a1 aI))) (fun (s, t, d) => [Geo.validS s = true, Geo.validS t = true, d ≠ 0, -200000000 ≤ d ∧ d ≤ 200000000]) (fun (s, t, d) => aCom (linesC s t d))
set_option maxHeartbeats 2000000 in
theorem k217 : c217.Ok Tryz.prog 217 := con_ok (cx_ok t219o) (raw := noRaw) (fun (s, t, d) => [jU 6 [(10, .int .i64 (lA s t d)), (11, .int .i64 (lB s t d)), (2, .int .i64 (lE d))], (9 + 10000, .mk Unit (fun _ _ => some ()) [] (fun _ => [¬ lA s t d < 0, ¬ lE d < lA s t d, ¬ lB s t d < 0, ¬ lE d < lB s t d]) (fun _ => [(12, .int .i64 (lX s t d)), (13, .int .i64 (lY s t d))]) (fun _ => []) (fun _ => 0) (fun _ => [])),
  jU 10 [(14, .int .i64 (lG s t d))], jO 13 [(59, .box 175 (comS (linesC s t d)))]]
  ) (fun (_, _, _) => ⟨_, rfl⟩) fun (s, t, d) hp => by_vc (q := bd 1000000000 s.b ∧ bd 1000000000 s.a ∧ bd 1000000000 t.b ∧ bd 1000000000 t.a ∧ bd 1000000000 t.a ∧ bd 1000000000 s.a ∧ bd 2000000000 (Geo.sub t.a s.a) ∧ bd 2000000000 (Geo.sub t.b t.a) ∧ bd 2000000000 (Geo.sub t.a s.a) ∧ bd 2000000000 (Geo.sub s.b s.a) ∧ ((d < 0 → in64 (0 - Geo.cross (Geo.sub t.a s.a) (Geo.sub t.b t.a)) ∧ in64 (0 - Geo.cross (Geo.sub t.a s.a) (Geo.sub s.b s.a)) ∧ in64 (0 - d) ∧ 0 - Geo.cross (Geo.sub t.a s.a) (Geo.sub t.b t.a) = lA s t d ∧ 0 - Geo.cross (Geo.sub t.a s.a) (Geo.sub s.b s.a) = lB s t d ∧ 0 - d = lE d) ∧
  (¬ d < 0 → Geo.cross (Geo.sub t.a s.a) (Geo.sub t.b t.a) = lA s t d ∧ Geo.cross (Geo.sub t.a s.a) (Geo.sub s.b s.a) = lB s t d ∧ d = lE d)) ∧
 (∀ y : Unit, (lA s t d < 0 → 0 = (linesC s t d).k ∧ 0 = (linesC s t d).p.x ∧ 0 = (linesC s t d).p.y ∧ 0 = (linesC s t d).p.den ∧ 0 = (linesC s t d).s.a.x ∧ 0 = (linesC s t d).s.a.y ∧ 0 = (linesC s t d).s.b.x ∧ 0 = (linesC s t d).s.b.y) ∧
  (¬ lA s t d < 0 → (lE d < lA s t d → 0 = (linesC s t d).k ∧ 0 = (linesC s t d).p.x ∧ 0 = (linesC s t d).p.y ∧ 0 = (linesC s t d).p.den ∧ 0 = (linesC s t d).s.a.x ∧ 0 = (linesC s t d).s.a.y ∧ 0 = (linesC s t d).s.b.x ∧ 0 = (linesC s t d).s.b.y) ∧
   (¬ lE d < lA s t d → (lB s t d < 0 → 0 = (linesC s t d).k ∧ 0 = (linesC s t d).p.x ∧ 0 = (linesC s t d).p.y ∧ 0 = (linesC s t d).p.den ∧ 0 = (linesC s t d).s.a.x ∧ 0 = (linesC s t d).s.a.y ∧ 0 = (linesC s t d).s.b.x ∧ 0 = (linesC s t d).s.b.y) ∧
    (¬ lB s t d < 0 → (lE d < lB s t d → 0 = (linesC s t d).k ∧ 0 = (linesC s t d).p.x ∧ 0 = (linesC s t d).p.y ∧ 0 = (linesC s t d).p.den ∧ 0 = (linesC s t d).s.a.x ∧ 0 = (linesC s t d).s.a.y ∧ 0 = (linesC s t d).s.b.x ∧ 0 = (linesC s t d).s.b.y) ∧
     (¬ lE d < lB s t d → (in64 (s.a.x * lE d) ∧ in64 (lA s t d * (Geo.sub s.b s.a).x) ∧ in64 (s.a.x * lE d + lA s t d * (Geo.sub s.b s.a).x) ∧ in64 (s.a.y * lE d) ∧ in64 (lA s t d * (Geo.sub s.b s.a).y) ∧ in64 (s.a.y * lE d + lA s t d * (Geo.sub s.b s.a).y) ∧ s.a.x * lE d + lA s t d * (Geo.sub s.b s.a).x = lX s t d ∧ s.a.y * lE d + lA s t d * (Geo.sub s.b s.a).y = lY s t d ∧ ¬ lA s t d < 0 ∧ ¬ lE d < lA s t d ∧ ¬ lB s t d < 0 ∧ ¬ lE d < lB s t d) ∧
      (∀ y_1 : Unit, ¬ lA s t d < 0 ∧ ¬ lE d < lA s t d ∧ ¬ lB s t d < 0 ∧ ¬ lE d < lB s t d → (-9000000000000000000 ≤ lX s t d ∧ lX s t d ≤ 9000000000000000000 ∧ -9000000000000000000 ≤ lY s t d ∧ lY s t d ≤ 9000000000000000000 ∧ -9000000000000000000 ≤ (Nat.gcd (Int.natAbs (lX s t d)) (Int.natAbs (lY s t d)) : Int) ∧ (Nat.gcd (Int.natAbs (lX s t d)) (Int.natAbs (lY s t d)) : Int) ≤ 9000000000000000000 ∧ -9000000000000000000 ≤ lE d ∧ lE d ≤ 9000000000000000000 ∧ (Nat.gcd (Int.natAbs (Nat.gcd (Int.natAbs (lX s t d)) (Int.natAbs (lY s t d)) : Int)) (Int.natAbs (lE d)) : Int) = lG s t d) ∧
       (∀ y_2 : Unit, lG s t d ≠ 0 ∧ in64 (Int.tdiv (lX s t d) (lG s t d)) ∧ lG s t d ≠ 0 ∧ in64 (Int.tdiv (lY s t d) (lG s t d)) ∧ lG s t d ≠ 0 ∧ in64 (Int.tdiv (lE d) (lG s t d)) ∧ ((lA s t d = 0 → 1 = (linesC s t d).k ∧ Int.tdiv (lX s t d) (lG s t d) = (linesC s t d).p.x ∧ Int.tdiv (lY s t d) (lG s t d) = (linesC s t d).p.y ∧ Int.tdiv (lE d) (lG s t d) = (linesC s t d).p.den ∧ 0 = (linesC s t d).s.a.x ∧ 0 = (linesC s t d).s.a.y ∧ 0 = (linesC s t d).s.b.x ∧ 0 = (linesC s t d).s.b.y) ∧
         (¬ lA s t d = 0 → (lA s t d = lE d → 1 = (linesC s t d).k ∧ Int.tdiv (lX s t d) (lG s t d) = (linesC s t d).p.x ∧ Int.tdiv (lY s t d) (lG s t d) = (linesC s t d).p.y ∧ Int.tdiv (lE d) (lG s t d) = (linesC s t d).p.den ∧ 0 = (linesC s t d).s.a.x ∧ 0 = (linesC s t d).s.a.y ∧ 0 = (linesC s t d).s.b.x ∧ 0 = (linesC s t d).s.b.y) ∧
          (¬ lA s t d = lE d → (lB s t d = 0 → 1 = (linesC s t d).k ∧ Int.tdiv (lX s t d) (lG s t d) = (linesC s t d).p.x ∧ Int.tdiv (lY s t d) (lG s t d) = (linesC s t d).p.y ∧ Int.tdiv (lE d) (lG s t d) = (linesC s t d).p.den ∧ 0 = (linesC s t d).s.a.x ∧ 0 = (linesC s t d).s.a.y ∧ 0 = (linesC s t d).s.b.x ∧ 0 = (linesC s t d).s.b.y) ∧
           (¬ lB s t d = 0 → (lB s t d = lE d → 1 = (linesC s t d).k ∧ Int.tdiv (lX s t d) (lG s t d) = (linesC s t d).p.x ∧ Int.tdiv (lY s t d) (lG s t d) = (linesC s t d).p.y ∧ Int.tdiv (lE d) (lG s t d) = (linesC s t d).p.den ∧ 0 = (linesC s t d).s.a.x ∧ 0 = (linesC s t d).s.a.y ∧ 0 = (linesC s t d).s.b.x ∧ 0 = (linesC s t d).s.b.y) ∧
            (¬ lB s t d = lE d → 2 = (linesC s t d).k ∧ Int.tdiv (lX s t d) (lG s t d) = (linesC s t d).p.x ∧ Int.tdiv (lY s t d) (lG s t d) = (linesC s t d).p.y ∧ Int.tdiv (lE d) (lG s t d) = (linesC s t d).p.den ∧ 0 = (linesC s t d).s.a.x ∧ 0 = (linesC s t d).s.a.y ∧ 0 = (linesC s t d).s.b.x ∧ 0 = (linesC s t d).s.b.y))))) ∧
        (∀ y_3 : Unit, (linesC s t d).k = (linesC s t d).k ∧ (linesC s t d).p.x = (linesC s t d).p.x ∧ (linesC s t d).p.y = (linesC s t d).p.y ∧ (linesC s t d).p.den = (linesC s t d).p.den ∧ (linesC s t d).s.a.x = (linesC s t d).s.a.x ∧ (linesC s t d).s.a.y = (linesC s t d).s.a.y ∧ (linesC s t d).s.b.x = (linesC s t d).s.b.x ∧ (linesC s t d).s.b.y = (linesC s t d).s.b.y))))))))) (by kernel_rfl) (by
  change Geo.validS s = true ∧ Geo.validS t = true ∧ d ≠ 0 ∧ (-200000000 ≤ d ∧ d ≤ 200000000) at hp
  obtain ⟨hs, ht, h0, hd⟩ := hp
  have bs : bd 4000 s.a ∧ bd 4000 s.b := vS_bd (by rw [hs]; rfl)
  have bt : bd 4000 t.a ∧ bd 4000 t.b := vS_bd (by rw [ht]; rfl)
  have u1 := sub_bd bs.2 bs.1
  have u2 := sub_bd bt.2 bt.1
  have u3 := sub_bd bt.1 bs.1
  have c1 := cross_bd u3 u2
  have c2 := cross_bd u3 u1
  have gM : ∀ {M : Int} {v : Geo.V}, 16000 ≤ M → bd 4000 v → bd M v := fun h1 h2 => by unfold bd at *; omega
  have gN : ∀ {M : Int} {v : Geo.V}, 16000 ≤ M → bd (4000 + 4000) v → bd M v := fun h1 h2 => by unfold bd at *; omega
  have a1 : -128000000 ≤ lA s t d ∧ lA s t d ≤ 128000000 := by unfold lA Geo.cross; split <;> omega
  have e1 : -200000000 ≤ lE d ∧ lE d ≤ 200000000 := by unfold lE; split <;> omega
  have e2 : lE d ≠ 0 := by unfold lE; split <;> omega
  have k1 : in64 (0 - Geo.cross (Geo.sub t.a s.a) (Geo.sub t.b t.a)) := i64w (by unfold Geo.cross; omega)
  have k2 : in64 (0 - Geo.cross (Geo.sub t.a s.a) (Geo.sub s.b s.a)) := i64w (by unfold Geo.cross; omega)
  have x1 := mul_bd (A := 4000) (B := 200000000) bs.1.1 e1
  have x2 := mul_bd (A := 128000000) (B := 8000) a1 u1.1
  have y1 := mul_bd (A := 4000) (B := 200000000) bs.1.2 e1
  have y2 := mul_bd (A := 128000000) (B := 8000) a1 u1.2
  have xB : -2000000000000 ≤ lX s t d ∧ lX s t d ≤ 2000000000000 := by unfold lX; omega
  have yB : -2000000000000 ≤ lY s t d ∧ lY s t d ≤ 2000000000000 := by unfold lY; omega
  have g1 : Nat.gcd (lX s t d).natAbs (lY s t d).natAbs ≤ 2000000000000 := gcd_bd (by omega) (by omega)
  have g2 : lG s t d ≠ 0 := by
    unfold lG
    have := Nat.gcd_pos_of_pos_right (Nat.gcd (lX s t d).natAbs (lY s t d).natAbs : Int).natAbs (show 0 < (lE d).natAbs by omega)
    omega
  have q1 := tdivZ_bd (g := lG s t d) xB
  have q2 := tdivZ_bd (g := lG s t d) yB
  have q3 := tdivZ_bd (g := lG s t d) e1
  have r1 : in64 (s.a.x * lE d) := i64w (by omega)
  have r2 : in64 (lA s t d * (Geo.sub s.b s.a).x) := i64w (by omega)
  have r3 : in64 (s.a.x * lE d + lA s t d * (Geo.sub s.b s.a).x) := i64w (by omega)
  have r4 : in64 (s.a.y * lE d) := i64w (by omega)
  have r5 : in64 (lA s t d * (Geo.sub s.b s.a).y) := i64w (by omega)
  have r6 : in64 (s.a.y * lE d + lA s t d * (Geo.sub s.b s.a).y) := i64w (by omega)
  have r7 : in64 ((lX s t d).tdiv (lG s t d)) := i64w (by omega)
  have r8 : in64 ((lY s t d).tdiv (lG s t d)) := i64w (by omega)
  have r9 : in64 ((lE d).tdiv (lG s t d)) := i64w (by omega)
  have r10 : in64 (0 - d) := i64w (by omega)
  have f1 : d < 0 → 0 - Geo.cross (Geo.sub t.a s.a) (Geo.sub t.b t.a) = lA s t d := fun h => by unfold lA; rw [if_pos h]; omega
  have f2 : d < 0 → 0 - Geo.cross (Geo.sub t.a s.a) (Geo.sub s.b s.a) = lB s t d := fun h => by unfold lB; rw [if_pos h]; omega
  have f3 : d < 0 → 0 - d = lE d := fun h => by unfold lE; rw [if_pos h]; omega
  have f4 : ¬ d < 0 → Geo.cross (Geo.sub t.a s.a) (Geo.sub t.b t.a) = lA s t d := fun h => by unfold lA; rw [if_neg h]
  have f5 : ¬ d < 0 → Geo.cross (Geo.sub t.a s.a) (Geo.sub s.b s.a) = lB s t d := fun h => by unfold lB; rw [if_neg h]
  have f6 : ¬ d < 0 → d = lE d := fun h => by unfold lE; rw [if_neg h]
  have n1 : lA s t d < 0 → linesC s t d = cz := fun h => linesC_no (.inl h)
  have n2 : lE d < lA s t d → linesC s t d = cz := fun h => linesC_no (.inr (.inl h))
  have n3 : lB s t d < 0 → linesC s t d = cz := fun h => linesC_no (.inr (.inr (.inl h)))
  have n4 : lE d < lB s t d → linesC s t d = cz := fun h => linesC_no (.inr (.inr (.inr h)))
  have t0 : ¬ lA s t d < 0 → ¬ lE d < lA s t d → ¬ lB s t d < 0 → ¬ lE d < lB s t d → lA s t d = 0 ∨ lA s t d = lE d ∨ lB s t d = 0 ∨ lB s t d = lE d → linesC s t d = ⟨1, ⟨(lX s t d).tdiv (lG s t d), (lY s t d).tdiv (lG s t d), (lE d).tdiv (lG s t d)⟩, cz.s⟩ := fun h1 h2 h3 h4 h => linesC_yes (by rw [linesK_yes h1 h2 h3 h4, if_pos h]) (by decide)
  have t1 : ¬ lA s t d < 0 → ¬ lE d < lA s t d → ¬ lB s t d < 0 → ¬ lE d < lB s t d → ¬ (lA s t d = 0 ∨ lA s t d = lE d ∨ lB s t d = 0 ∨ lB s t d = lE d) → linesC s t d = ⟨2, ⟨(lX s t d).tdiv (lG s t d), (lY s t d).tdiv (lG s t d), (lE d).tdiv (lG s t d)⟩, cz.s⟩ := fun h1 h2 h3 h4 h => linesC_yes (by rw [linesK_yes h1 h2 h3 h4, if_neg h]) (by decide)
  have b1 := gM (M := 1000000000) (by decide) bs.1
  have b2 := gM (M := 1000000000) (by decide) bs.2
  have b3 := gM (M := 1000000000) (by decide) bt.1
  have b4 := gM (M := 1000000000) (by decide) bt.2
  have b5 := gN (M := 2000000000) (by decide) u1
  have b6 := gN (M := 2000000000) (by decide) u2
  have b7 := gN (M := 2000000000) (by decide) u3
  have hX : -9000000000000000000 ≤ lX s t d ∧ lX s t d ≤ 9000000000000000000 := by omega
  have hY : -9000000000000000000 ≤ lY s t d ∧ lY s t d ≤ 9000000000000000000 := by omega
  have hE : -9000000000000000000 ≤ lE d ∧ lE d ≤ 9000000000000000000 := by omega
  have hG1 : -9000000000000000000 ≤ ((Nat.gcd (lX s t d).natAbs (lY s t d).natAbs : Nat) : Int) := by omega
  have hG2 : ((Nat.gcd (lX s t d).natAbs (lY s t d).natAbs : Nat) : Int) ≤ 9000000000000000000 := by omega
  clear hs ht h0 hd bs bt u1 u2 u3 c1 c2 gM gN a1 e1 e2 x1 x2 y1 y2 xB yB g1 q1 q2 q3
  obtain ⟨hX1, hX2⟩ := hX
  obtain ⟨hY1, hY2⟩ := hY
  obtain ⟨hE1, hE2⟩ := hE
  repeat' first | with_reducible apply And.intro | with_reducible intro
  all_goals repeat with_reducible cases ‹_ ∧ _›
  all_goals first | assumption | rfl | exact f1 ‹_› | exact f2 ‹_› | exact f3 ‹_› | exact f4 ‹_› | exact f5 ‹_› | exact f6 ‹_› | (rw [n1 ‹_›]; rfl) | (rw [n2 ‹_›]; rfl) | (rw [n3 ‹_›]; rfl) | (rw [n4 ‹_›]; rfl) | (rw [t0 ‹_› ‹_› ‹_› ‹_› (.inl ‹_›)] <;> rfl) | (rw [t0 ‹_› ‹_› ‹_› ‹_› (.inr (.inl ‹_›))] <;> rfl) | (rw [t0 ‹_› ‹_› ‹_› ‹_› (.inr (.inr (.inl ‹_›)))] <;> rfl) | (rw [t0 ‹_› ‹_› ‹_› ‹_› (.inr (.inr (.inr ‹_›)))] <;> rfl) | (rw [t1 ‹_› ‹_› ‹_› ‹_› (fun h => h.elim ‹_› fun h => h.elim ‹_› fun h => h.elim ‹_› ‹_›)] <;> rfl))
def t217 : Tab := tabL [(217, c217)] t219
theorem t217o : t217.Ok Tryz.prog := tabL_ok t219o ⟨k217, trivial⟩
def v2 (v : Geo.V) : List SV := [.int .i64 v.x, .int .i64 v.y]
def oneC (v : Geo.V) : Com := ⟨1, Geo.ptOf v, cz.s⟩
def meetD (s t : Geo.S) : Int := Geo.cross (Geo.sub s.b s.a) (Geo.sub t.b t.a)
def meetE (s t : Geo.S) : Com :=
  if Geo.cmpV (Geo.shareLo s t) (Geo.shareHi s t) = 0 then oneC (Geo.shareLo s t)
  else if Geo.cmpV (Geo.shareLo s t) (Geo.shareHi s t) = -1 then ⟨3, ⟨0, 0, 0⟩, ⟨Geo.shareLo s t, Geo.shareHi s t⟩⟩
  else cz
def mb1 (s t : Geo.S) : Bool := decide (s.a = s.b) && Geo.onS t s.a
def mb3 (s t : Geo.S) : Bool := decide (s.a = s.b) || (decide (t.a = t.b) || decide (¬ Geo.turn s.a s.b t.a = 0))
def meetC (s t : Geo.S) : Com :=
  if (!Geo.validS s) = true then cz
  else if (!Geo.validS t) = true then cz
  else if ¬ meetD s t = 0 then linesC s t (meetD s t)
  else if mb1 s t = true then oneC s.a
  else if mb1 t s = true then oneC t.a
  else if mb3 s t = true then cz
  else meetE s t
def c199 : Con := con (ac aS (a1 aS)) (fun (_, _) => []) (fun (s, t) => aCom (meetC s t))
set_option maxHeartbeats 2000000 in
theorem k199 : c199.Ok Tryz.prog 199 := con_ok (cx_ok t217o) (raw := noRaw) (fun (s, t) => [jb 7 36 (mb1 s t), jb 9 51 (mb1 t s), jb 11 66 (mb3 s t), jP 12 [meetC s t = meetE s t], lU 14 3, jO 18 [(34, .box 189 (v2 (Geo.loS s) ++ v2 (Geo.hiS s) ++ v2 (Geo.loS t) ++ v2 (Geo.hiS t)))], jO 21 [(40, .box 44 (v2 (Geo.shareLo s t)))], jO 23 [(41, .box 44 (v2 (Geo.shareHi s t)))]]
  ) (fun (_, _) => ⟨_, rfl⟩) fun (s, t) _ => by_vc (q := ((!Geo.validS s) = true → 0 = (meetC s t).k ∧ 0 = (meetC s t).p.x ∧ 0 = (meetC s t).p.y ∧ 0 = (meetC s t).p.den ∧ 0 = (meetC s t).s.a.x ∧ 0 = (meetC s t).s.a.y ∧ 0 = (meetC s t).s.b.x ∧ 0 = (meetC s t).s.b.y) ∧
 ((!Geo.validS s) = false → ((!Geo.validS t) = true → 0 = (meetC s t).k ∧ 0 = (meetC s t).p.x ∧ 0 = (meetC s t).p.y ∧ 0 = (meetC s t).p.den ∧ 0 = (meetC s t).s.a.x ∧ 0 = (meetC s t).s.a.y ∧ 0 = (meetC s t).s.b.x ∧ 0 = (meetC s t).s.b.y) ∧
  ((!Geo.validS t) = false → bd 1000000000 s.b ∧ bd 1000000000 s.a ∧ bd 1000000000 t.b ∧ bd 1000000000 t.a ∧ bd 2000000000 (Geo.sub s.b s.a) ∧ bd 2000000000 (Geo.sub t.b t.a) ∧ (¬ Geo.cross (Geo.sub s.b s.a) (Geo.sub t.b t.a) = 0 → Geo.validS s = true ∧ Geo.validS t = true ∧ Geo.cross (Geo.sub s.b s.a) (Geo.sub t.b t.a) ≠ 0 ∧ (-200000000 ≤ Geo.cross (Geo.sub s.b s.a) (Geo.sub t.b t.a) ∧ Geo.cross (Geo.sub s.b s.a) (Geo.sub t.b t.a) ≤ 200000000) ∧ (linesC s t (Geo.cross (Geo.sub s.b s.a) (Geo.sub t.b t.a))).k = (meetC s t).k ∧ (linesC s t (Geo.cross (Geo.sub s.b s.a) (Geo.sub t.b t.a))).p.x = (meetC s t).p.x ∧ (linesC s t (Geo.cross (Geo.sub s.b s.a) (Geo.sub t.b t.a))).p.y = (meetC s t).p.y ∧ (linesC s t (Geo.cross (Geo.sub s.b s.a) (Geo.sub t.b t.a))).p.den = (meetC s t).p.den ∧ (linesC s t (Geo.cross (Geo.sub s.b s.a) (Geo.sub t.b t.a))).s.a.x = (meetC s t).s.a.x ∧ (linesC s t (Geo.cross (Geo.sub s.b s.a) (Geo.sub t.b t.a))).s.a.y = (meetC s t).s.a.y ∧ (linesC s t (Geo.cross (Geo.sub s.b s.a) (Geo.sub t.b t.a))).s.b.x = (meetC s t).s.b.x ∧ (linesC s t (Geo.cross (Geo.sub s.b s.a) (Geo.sub t.b t.a))).s.b.y = (meetC s t).s.b.y) ∧
   (¬ (¬ Geo.cross (Geo.sub s.b s.a) (Geo.sub t.b t.a) = 0) → (((s.a = s.b → Geo.onS t s.a = mb1 s t) ∧
      (¬ s.a = s.b → false = mb1 s t)) ∧
     (∀ y : Unit, (mb1 s t = true → 1 = (meetC s t).k ∧ s.a.x = (meetC s t).p.x ∧ s.a.y = (meetC s t).p.y ∧ 1 = (meetC s t).p.den ∧ 0 = (meetC s t).s.a.x ∧ 0 = (meetC s t).s.a.y ∧ 0 = (meetC s t).s.b.x ∧ 0 = (meetC s t).s.b.y) ∧
      (mb1 s t = false → ((t.a = t.b → Geo.onS s t.a = mb1 t s) ∧
        (¬ t.a = t.b → false = mb1 t s)) ∧
       (∀ y_1 : Unit, (mb1 t s = true → 1 = (meetC s t).k ∧ t.a.x = (meetC s t).p.x ∧ t.a.y = (meetC s t).p.y ∧ 1 = (meetC s t).p.den ∧ 0 = (meetC s t).s.a.x ∧ 0 = (meetC s t).s.a.y ∧ 0 = (meetC s t).s.b.x ∧ 0 = (meetC s t).s.b.y) ∧
        (mb1 t s = false → ((s.a = s.b → true = mb3 s t) ∧
          (¬ s.a = s.b → (t.a = t.b → true = mb3 s t) ∧
           (¬ t.a = t.b → bd 1000000000 s.a ∧ bd 1000000000 s.b ∧ bd 1000000000 t.a ∧ decide (¬ Geo.turn s.a s.b t.a = 0) = mb3 s t))) ∧
         (∀ y_2 : Unit, (mb3 s t = true → 0 = (meetC s t).k ∧ 0 = (meetC s t).p.x ∧ 0 = (meetC s t).p.y ∧ 0 = (meetC s t).p.den ∧ 0 = (meetC s t).s.a.x ∧ 0 = (meetC s t).s.a.y ∧ 0 = (meetC s t).s.b.x ∧ 0 = (meetC s t).s.b.y) ∧
          (mb3 s t = false → meetC s t = meetE s t))))))) ∧
    (∀ y : Unit, meetC s t = meetE s t → (((0 : Int) < 4 → in64 (0 + 1) ∧ ix (0 + 1) 4 ∧ ix 0 4 ∧ (Geo.lessV s.b s.a = true → in64 (0 + 1) ∧ in64 (0 + 1) ∧ ix (0 + 1) 4 ∧ ix 0 4 ∧ ix 0 4 ∧ ix (0 + 1) 4 ∧ in64 (0 + 2) ∧ ((0 + 2 : Int) < 4 → in64 (0 + 2 + 1) ∧ ix (0 + 2 + 1) 4 ∧ ix (0 + 2) 4 ∧ (Geo.lessV t.b t.a = true → in64 (0 + 2 + 1) ∧ in64 (0 + 2 + 1) ∧ ix (0 + 2 + 1) 4 ∧ ix (0 + 2) 4 ∧ ix (0 + 2) 4 ∧ ix (0 + 2 + 1) 4 ∧ in64 (0 + 2 + 2) ∧ ((0 + 2 + 2 : Int) < 4 → in64 (0 + 2 + 2 + 1) ∧ ix (0 + 2 + 2 + 1) 4 ∧ False) ∧
          (¬ (0 + 2 + 2 : Int) < 4 → s.b.x = (Geo.loS s).x ∧ s.b.y = (Geo.loS s).y ∧ s.a.x = (Geo.hiS s).x ∧ s.a.y = (Geo.hiS s).y ∧ t.b.x = (Geo.loS t).x ∧ t.b.y = (Geo.loS t).y ∧ t.a.x = (Geo.hiS t).x ∧ t.a.y = (Geo.hiS t).y)) ∧
         (Geo.lessV t.b t.a = false → in64 (0 + 2 + 2) ∧ ((0 + 2 + 2 : Int) < 4 → in64 (0 + 2 + 2 + 1) ∧ ix (0 + 2 + 2 + 1) 4 ∧ False) ∧
          (¬ (0 + 2 + 2 : Int) < 4 → s.b.x = (Geo.loS s).x ∧ s.b.y = (Geo.loS s).y ∧ s.a.x = (Geo.hiS s).x ∧ s.a.y = (Geo.hiS s).y ∧ t.a.x = (Geo.loS t).x ∧ t.a.y = (Geo.loS t).y ∧ t.b.x = (Geo.hiS t).x ∧ t.b.y = (Geo.hiS t).y))) ∧
        (¬ (0 + 2 : Int) < 4 → s.b.x = (Geo.loS s).x ∧ s.b.y = (Geo.loS s).y ∧ s.a.x = (Geo.hiS s).x ∧ s.a.y = (Geo.hiS s).y ∧ t.a.x = (Geo.loS t).x ∧ t.a.y = (Geo.loS t).y ∧ t.b.x = (Geo.hiS t).x ∧ t.b.y = (Geo.hiS t).y)) ∧
       (Geo.lessV s.b s.a = false → in64 (0 + 2) ∧ ((0 + 2 : Int) < 4 → in64 (0 + 2 + 1) ∧ ix (0 + 2 + 1) 4 ∧ ix (0 + 2) 4 ∧ (Geo.lessV t.b t.a = true → in64 (0 + 2 + 1) ∧ in64 (0 + 2 + 1) ∧ ix (0 + 2 + 1) 4 ∧ ix (0 + 2) 4 ∧ ix (0 + 2) 4 ∧ ix (0 + 2 + 1) 4 ∧ in64 (0 + 2 + 2) ∧ ((0 + 2 + 2 : Int) < 4 → in64 (0 + 2 + 2 + 1) ∧ ix (0 + 2 + 2 + 1) 4 ∧ False) ∧
          (¬ (0 + 2 + 2 : Int) < 4 → s.a.x = (Geo.loS s).x ∧ s.a.y = (Geo.loS s).y ∧ s.b.x = (Geo.hiS s).x ∧ s.b.y = (Geo.hiS s).y ∧ t.b.x = (Geo.loS t).x ∧ t.b.y = (Geo.loS t).y ∧ t.a.x = (Geo.hiS t).x ∧ t.a.y = (Geo.hiS t).y)) ∧
         (Geo.lessV t.b t.a = false → in64 (0 + 2 + 2) ∧ ((0 + 2 + 2 : Int) < 4 → in64 (0 + 2 + 2 + 1) ∧ ix (0 + 2 + 2 + 1) 4 ∧ False) ∧
          (¬ (0 + 2 + 2 : Int) < 4 → s.a.x = (Geo.loS s).x ∧ s.a.y = (Geo.loS s).y ∧ s.b.x = (Geo.hiS s).x ∧ s.b.y = (Geo.hiS s).y ∧ t.a.x = (Geo.loS t).x ∧ t.a.y = (Geo.loS t).y ∧ t.b.x = (Geo.hiS t).x ∧ t.b.y = (Geo.hiS t).y))) ∧
        (¬ (0 + 2 : Int) < 4 → s.a.x = (Geo.loS s).x ∧ s.a.y = (Geo.loS s).y ∧ s.b.x = (Geo.hiS s).x ∧ s.b.y = (Geo.hiS s).y ∧ t.a.x = (Geo.loS t).x ∧ t.a.y = (Geo.loS t).y ∧ t.b.x = (Geo.hiS t).x ∧ t.b.y = (Geo.hiS t).y))) ∧
      (¬ (0 : Int) < 4 → s.a.x = (Geo.loS s).x ∧ s.a.y = (Geo.loS s).y ∧ s.b.x = (Geo.hiS s).x ∧ s.b.y = (Geo.hiS s).y ∧ t.a.x = (Geo.loS t).x ∧ t.a.y = (Geo.loS t).y ∧ t.b.x = (Geo.hiS t).x ∧ t.b.y = (Geo.hiS t).y)) ∧
     (∀ y_1 : Unit, ix 0 4 ∧ ix 1 4 ∧ (ix 2 4 ∧ (Geo.lessV (Geo.loS s) (Geo.loS t) = true → ix 2 4 ∧ (Geo.loS t).x = (Geo.shareLo s t).x ∧ (Geo.loS t).y = (Geo.shareLo s t).y) ∧
       (Geo.lessV (Geo.loS s) (Geo.loS t) = false → (Geo.loS s).x = (Geo.shareLo s t).x ∧ (Geo.loS s).y = (Geo.shareLo s t).y)) ∧
      (∀ y_2 : Unit, (ix 3 4 ∧ (Geo.lessV (Geo.hiS t) (Geo.hiS s) = true → ix 3 4 ∧ (Geo.hiS t).x = (Geo.shareHi s t).x ∧ (Geo.hiS t).y = (Geo.shareHi s t).y) ∧
        (Geo.lessV (Geo.hiS t) (Geo.hiS s) = false → (Geo.hiS s).x = (Geo.shareHi s t).x ∧ (Geo.hiS s).y = (Geo.shareHi s t).y)) ∧
       (∀ y_3 : Unit, (Geo.cmpV (Geo.shareLo s t) (Geo.shareHi s t) = 0 → 1 = (meetC s t).k ∧ (Geo.shareLo s t).x = (meetC s t).p.x ∧ (Geo.shareLo s t).y = (meetC s t).p.y ∧ 1 = (meetC s t).p.den ∧ 0 = (meetC s t).s.a.x ∧ 0 = (meetC s t).s.a.y ∧ 0 = (meetC s t).s.b.x ∧ 0 = (meetC s t).s.b.y) ∧
        (¬ Geo.cmpV (Geo.shareLo s t) (Geo.shareHi s t) = 0 → (Geo.cmpV (Geo.shareLo s t) (Geo.shareHi s t) = -1 → 3 = (meetC s t).k ∧ 0 = (meetC s t).p.x ∧ 0 = (meetC s t).p.y ∧ 0 = (meetC s t).p.den ∧ (Geo.shareLo s t).x = (meetC s t).s.a.x ∧ (Geo.shareLo s t).y = (meetC s t).s.a.y ∧ (Geo.shareHi s t).x = (meetC s t).s.b.x ∧ (Geo.shareHi s t).y = (meetC s t).s.b.y) ∧
         (¬ Geo.cmpV (Geo.shareLo s t) (Geo.shareHi s t) = -1 → 0 = (meetC s t).k ∧ 0 = (meetC s t).p.x ∧ 0 = (meetC s t).p.y ∧ 0 = (meetC s t).p.den ∧ 0 = (meetC s t).s.a.x ∧ 0 = (meetC s t).s.a.y ∧ 0 = (meetC s t).s.b.x ∧ 0 = (meetC s t).s.b.y)))))))))) (by kernel_rfl) (by
  have gB : (!Geo.validS s) = false → (!Geo.validS t) = false → -200000000 ≤ meetD s t ∧ meetD s t ≤ 200000000 := fun h1 h2 => by
    have bs : bd 4000 s.a ∧ bd 4000 s.b := vS_bd h1
    have bt : bd 4000 t.a ∧ bd 4000 t.b := vS_bd h2
    have c1 := cross_bd (sub_bd bs.2 bs.1) (sub_bd bt.2 bt.1)
    unfold meetD Geo.cross; omega
  have gM : ∀ {r : Geo.S} {M : Int}, 8000 ≤ M → (!Geo.validS r) = false → bd M r.a ∧ bd M r.b ∧ bd M (Geo.sub r.b r.a) := fun hM h => by
    have b := vS_bd h (M := 4000)
    have c := sub_bd b.2 b.1
    unfold bd at *; omega
  have e1 : (!Geo.validS s) = true → meetC s t = cz := fun h => if_pos h
  have e2 : (!Geo.validS t) = true → meetC s t = cz := fun h => by unfold meetC; rw [h]; split <;> rfl
  have e3 : (!Geo.validS s) = false → (!Geo.validS t) = false → ¬ meetD s t = 0 → meetC s t = linesC s t (meetD s t) := fun h1 h2 h3 => by unfold meetC; rw [h1, h2]; exact if_pos h3
  have e4 : (!Geo.validS s) = false → (!Geo.validS t) = false → ¬ ¬ meetD s t = 0 → mb1 s t = true → meetC s t = oneC s.a := fun h1 h2 h3 h4 => by unfold meetC; rw [h1, h2, if_neg h3, h4]; rfl
  have e5 : (!Geo.validS s) = false → (!Geo.validS t) = false → ¬ ¬ meetD s t = 0 → mb1 s t = false → mb1 t s = true → meetC s t = oneC t.a := fun h1 h2 h3 h4 h5 => by unfold meetC; rw [h1, h2, if_neg h3, h4, h5]; rfl
  have e6 : (!Geo.validS s) = false → (!Geo.validS t) = false → ¬ ¬ meetD s t = 0 → mb1 s t = false → mb1 t s = false → mb3 s t = true → meetC s t = cz := fun h1 h2 h3 h4 h5 h6 => by unfold meetC; rw [h1, h2, if_neg h3, h4, h5, h6]; rfl
  have e7 : (!Geo.validS s) = false → (!Geo.validS t) = false → ¬ ¬ meetD s t = 0 → mb1 s t = false → mb1 t s = false → mb3 s t = false → meetC s t = meetE s t := fun h1 h2 h3 h4 h5 h6 => by unfold meetC; rw [h1, h2, if_neg h3, h4, h5, h6]; rfl
  have e8 : meetC s t = meetE s t → Geo.cmpV (Geo.shareLo s t) (Geo.shareHi s t) = 0 → meetC s t = oneC (Geo.shareLo s t) := fun h h1 => by rw [h]; exact if_pos h1
  have e9 : meetC s t = meetE s t → ¬ Geo.cmpV (Geo.shareLo s t) (Geo.shareHi s t) = 0 → Geo.cmpV (Geo.shareLo s t) (Geo.shareHi s t) = -1 → meetC s t = ⟨3, ⟨0, 0, 0⟩, ⟨Geo.shareLo s t, Geo.shareHi s t⟩⟩ := fun h h1 h2 => by rw [h]; unfold meetE; rw [if_neg h1, if_pos h2]
  have e10 : meetC s t = meetE s t → ¬ Geo.cmpV (Geo.shareLo s t) (Geo.shareHi s t) = 0 → ¬ Geo.cmpV (Geo.shareLo s t) (Geo.shareHi s t) = -1 → meetC s t = cz := fun h h1 h2 => by rw [h]; unfold meetE; rw [if_neg h1, if_neg h2]
  have q1 : s.a = s.b → true = mb3 s t := fun h => by unfold mb3; rw [decide_eq_true h]; rfl
  have q2 : t.a = t.b → true = mb3 s t := fun h => by unfold mb3; rw [decide_eq_true h]; simp
  have q3 : ¬ s.a = s.b → ¬ t.a = t.b → decide (¬ Geo.turn s.a s.b t.a = 0) = mb3 s t := fun h1 h2 => by unfold mb3; rw [decide_eq_false h1, decide_eq_false h2]; simp
  have q4 : ∀ {s t : Geo.S}, s.a = s.b → Geo.onS t s.a = mb1 s t := fun h => by unfold mb1; rw [decide_eq_true h]; rfl
  have q5 : ∀ {s t : Geo.S}, ¬ s.a = s.b → false = mb1 s t := fun h => by unfold mb1; rw [decide_eq_false h]; rfl
  have w1 : ∀ {r : Geo.S}, Geo.lessV r.b r.a = true → r.b = Geo.loS r ∧ r.a = Geo.hiS r := fun h => by unfold Geo.loS Geo.hiS; rw [h]; exact ⟨rfl, rfl⟩
  have w2 : ∀ {r : Geo.S}, Geo.lessV r.b r.a = false → r.a = Geo.loS r ∧ r.b = Geo.hiS r := fun h => by unfold Geo.loS Geo.hiS; rw [h]; exact ⟨rfl, rfl⟩
  have w3 : Geo.lessV (Geo.loS s) (Geo.loS t) = true → Geo.loS t = Geo.shareLo s t := fun h => by unfold Geo.shareLo; rw [h]; rfl
  have w4 : Geo.lessV (Geo.loS s) (Geo.loS t) = false → Geo.loS s = Geo.shareLo s t := fun h => by unfold Geo.shareLo; rw [h]; rfl
  have w5 : Geo.lessV (Geo.hiS t) (Geo.hiS s) = true → Geo.hiS t = Geo.shareHi s t := fun h => by unfold Geo.shareHi; rw [h]; rfl
  have w6 : Geo.lessV (Geo.hiS t) (Geo.hiS s) = false → Geo.hiS s = Geo.shareHi s t := fun h => by unfold Geo.shareHi; rw [h]; rfl
  repeat' first | with_reducible apply And.intro | with_reducible intro
  all_goals repeat with_reducible cases ‹_ ∧ _›
  all_goals first | assumption | rfl | (unfold ix; omega) | (unfold in64; omega) | omega | exact nb ‹_› | exact q1 ‹_› | exact q2 ‹_› | exact q3 ‹_› ‹_› | exact q4 ‹_› | exact q5 ‹_› | (rw [e1 ‹_›] <;> rfl) | (rw [e2 ‹_›] <;> rfl) | (rw [e3 ‹_› ‹_› ‹_›] <;> rfl) | (rw [e4 ‹_› ‹_› ‹_› ‹_›] <;> rfl) | (rw [e5 ‹_› ‹_› ‹_› ‹_› ‹_›] <;> rfl) | (rw [e6 ‹_› ‹_› ‹_› ‹_› ‹_› ‹_›] <;> rfl) | exact e7 ‹_› ‹_› ‹_› ‹_› ‹_› ‹_› | (rw [e8 ‹_› ‹_›] <;> rfl) | (rw [e9 ‹_› ‹_› ‹_›] <;> rfl) | (rw [e10 ‹_› ‹_› ‹_›] <;> rfl) | exact (gB ‹_› ‹_›).1 | exact (gB ‹_› ‹_›).2 | exact (gM (by decide) ‹_›).1 | exact (gM (by decide) ‹_›).2.1 | exact (gM (by decide) ‹_›).2.2 | (rw [← (w1 ‹_›).1]; done) | (rw [← (w1 ‹_›).2]; done) | (rw [← (w2 ‹_›).1]; done) | (rw [← (w2 ‹_›).2]; done) | (rw [w3 ‹_›]; done) | (rw [w4 ‹_›]; done) | (rw [w5 ‹_›]; done) | (rw [w6 ‹_›]; done))
def t199 : Tab := tabL [(199, c199)] t217
theorem t199o : t199.Ok Tryz.prog := tabL_ok t217o ⟨k199, trivial⟩
theorem linesC_k (s t : Geo.S) (d : Int) : (linesC s t d).k = Geo.linesK s t d := by
  unfold linesC; split
  · rename_i h; rw [h]; rfl
  · rfl
theorem meetC_k (s t : Geo.S) : (meetC s t).k = Geo.meetP s t := by
  have hc : (cz).k = 0 := rfl
  have h1 : ∀ v, (oneC v).k = 1 := fun _ => rfl
  have e1 : mb1 s t = true ↔ s.a = s.b ∧ Geo.onS t s.a = true := by unfold mb1; simp
  have e2 : mb1 t s = true ↔ t.a = t.b ∧ Geo.onS s t.a = true := by unfold mb1; simp
  have e3 : mb3 s t = true ↔ s.a = s.b ∨ t.a = t.b ∨ Geo.turn s.a s.b t.a ≠ 0 := by unfold mb3; simp
  unfold meetC Geo.meetP meetE
  rw [← meetD]
  simp only [← e1, ← e2, ← e3]
  cases Geo.validS s <;> cases Geo.validS t <;> simp only [Bool.not_true, Bool.not_false, Bool.and_true, Bool.and_false, if_true, Bool.false_eq_true, if_false, hc, ne_eq]
  repeat' split
  all_goals first | rfl | exact linesC_k _ _ _
def c156 : Con := con (ac aS (a1 aS)) (fun (_, _) => []) (fun (s, t) => .int .i64 (Geo.meetP s t)
  )
theorem k156 : c156.Ok Tryz.prog 156 := con_ok (cx_ok t199o) (raw := noRaw) (fun (_, _) => []) (fun (_, _) => ⟨_, rfl⟩) fun (s, t) _ => by_vc (q := (meetC s t).k = Geo.meetP s t) (by kernel_rfl) (by
  exact meetC_k s t)
def t156 : Tab := tabL [(156, c156)] t199
theorem t156o : t156.Ok Tryz.prog := tabL_ok t199o ⟨k156, trivial⟩
end
end Go.Proofs.YtdaeofhdgabhjaaGreat
namespace Go.Proofs.YtdaeofhdgabhjaaGreat
open Go.RowKit
set_option maxRecDepth 100000
noncomputable section
open Geo (nth)
def c153 : Con := con (ac (aL .V) (a1 aN)) (fun (r, i) => [i < r.length, r.length ≤ 1000000]) (fun (r, i) => aV.enc (Geo.prv r i)
  )
theorem k153 : c153.Ok Tryz.prog 153 := con_ok (cx_ok t156o) (raw := noRaw) (fun (_, _) => []) (fun (_, _) => ⟨_, rfl⟩) fun (r, i) hp => by_vc (q := in64 ((i : Int) + r.length) ∧ in64 ((i : Int) + r.length - 1) ∧ (r.length : Int) ≠ 0 ∧ ix (Int.tmod ((i : Int) + r.length - 1) (r.length : Int)) r.length ∧ (nth r (Int.tmod ((i : Int) + r.length - 1) (r.length : Int)).toNat).x = (Geo.prv r i).x ∧ (nth r (Int.tmod ((i : Int) + r.length - 1) (r.length : Int)).toNat).y = (Geo.prv r i).y) (by kernel_rfl) (by
  change i < r.length ∧ r.length ≤ 1000000 at hp
  have h : Int.tmod ((i : Int) + r.length - 1) (r.length : Int) = (((i + r.length - 1) % r.length : Nat) : Int) := by
    rw [show (i : Int) + r.length - 1 = ((i + r.length - 1 : Nat) : Int) by omega, ← Int.ofNat_tmod]
  rw [h]
  exact ⟨i64w (by omega), i64w (by omega), by omega, ix_mod (by omega), rfl, rfl⟩)
def t153 : Tab := tabL [(153, c153)] t156
theorem t153o : t153.Ok Tryz.prog := tabL_ok t156o ⟨k153, trivial⟩
def c154 : Con := con (ac (aL .V) (a1 aN)) (fun (r, i) => [i < r.length, r.length ≤ 1000000]) (fun (r, i) => aV.enc (Geo.nxt r i)
  )
theorem k154 : c154.Ok Tryz.prog 154 := con_ok (cx_ok t153o) (raw := noRaw) (fun (_, _) => []) (fun (_, _) => ⟨_, rfl⟩) fun (r, i) hp => by_vc (q := in64 ((i : Int) + 1) ∧ (r.length : Int) ≠ 0 ∧ ix (((i + 1) % r.length : Nat) : Int) r.length ∧ (nth r ((i + 1) % r.length)).x = (Geo.nxt r i).x ∧ (nth r ((i + 1) % r.length)).y = (Geo.nxt r i).y) (by kernel_rfl) (by
  change i < r.length ∧ r.length ≤ 1000000 at hp
  exact ⟨i64w (by omega), by omega, ix_mod (by omega), rfl, rfl⟩)
def t154 : Tab := tabL [(154, c154)] t153
theorem t154o : t154.Ok Tryz.prog := tabL_ok t153o ⟨k154, trivial⟩
def c155 : Con := conO (a1 (aL .V)) (fun r => [r.length ≤ 1000]) 46 .S (fun r => Geo.edges r) (fun _ => [])
theorem k155 : c155.Ok Tryz.prog 155 := con_okO (cx_ok t154o) (raw := noRaw) (fun r => [lp 5 11 r.length (fun _ => []) [21] (fun k => [(3, .own 21 .S k)]) (fun k => [(21, .row 46 .S ((Geo.edges r).take k))])]
  ) (fun _ => ⟨[], rfl⟩) fun r hp => by_vc (q := ((r.length : Int) < 2 → Geo.edges r = ([] : List Geo.S)) ∧
 (¬ (r.length : Int) < 2 → (0 = (0 : Int) ∧ (0 : Nat) = 0 ∧ List.take 0 (Geo.edges r) = ([] : List Geo.S) ∧ (0 : Nat) ≤ r.length) ∧
  (∀ x : Nat, x ≤ r.length → ((x : Int) < r.length → ix (x : Int) r.length ∧ x < r.length ∧ r.length ≤ 1000000 ∧ x = (List.take x (Geo.edges r)).length ∧ (List.take x (Geo.edges r)).length + [(⟨(nth r x), (Geo.nxt r x)⟩ : Geo.S)].length ≤ 1000000 ∧ in64 ((x : Int) + 1) ∧ (x : Int) + 1 = ((x + 1 : Nat) : Int) ∧ (List.take x (Geo.edges r) ++ [(⟨(nth r x), (Geo.nxt r x)⟩ : Geo.S)]).length = x + 1 ∧ List.take x (Geo.edges r) ++ [(⟨(nth r x), (Geo.nxt r x)⟩ : Geo.S)] = List.take (x + 1) (Geo.edges r) ∧ x + 1 ≤ r.length ∧ r.length - (x + 1) < r.length - x) ∧
   (¬ (x : Int) < r.length → List.take x (Geo.edges r) = Geo.edges r ∧ x = (List.take x (Geo.edges r)).length)))) (by kernel_rfl) (by
  change r.length ≤ 1000 at hp
  have e0 : (r.length : Int) < 2 → Geo.edges r = [] := fun h => by unfold Geo.edges; rw [if_pos (by omega)]
  have e1 : ¬ (r.length : Int) < 2 → (Geo.edges r).length = r.length := fun h => edges_length r (by omega)
  have e2 : ¬ (r.length : Int) < 2 → ∀ x : Nat, (x : Int) < r.length → List.take x (Geo.edges r) ++ [⟨nth r x, Geo.nxt r x⟩] = List.take (x + 1) (Geo.edges r) := fun h x hx => by
    have hx' : x < (Geo.edges r).length := by rw [e1 h]; omega
    rw [List.take_succ_eq_append_getElem hx', ← nthS_eq hx', nthS_edges (by omega) (by omega)]; rfl
  have e3 : ¬ (r.length : Int) < 2 → ∀ x : Nat, x ≤ r.length → (List.take x (Geo.edges r)).length = x := fun h x hx => by
    rw [List.length_take, e1 h]; omega
  have e4 : ¬ (r.length : Int) < 2 → ∀ x : Nat, ¬ (x : Int) < r.length → List.take x (Geo.edges r) = Geo.edges r := fun h x hx => List.take_of_length_le (by rw [e1 h]; omega)
  repeat' first | with_reducible apply And.intro | with_reducible intro
  all_goals repeat with_reducible cases ‹_ ∧ _›
  all_goals first | assumption | rfl | exact trivial | exact nb ‹_› | exact nb' ‹_› | omega | exact ix_mod (by omega) | (unfold ix; omega) | (unfold in64; omega) | exact upto_zero _ | exact upto_succ ‹_› ‹_› | (refine upto_succ ‹_› ?_; simp_all; done) | exact e0 ‹_› | exact e2 ‹_› _ ‹_› | exact e4 ‹_› _ ‹_› | exact (e3 ‹_› _ ‹_›).symm | (rw [List.length_append, e3 ‹_› _ ‹_›]; simp; done) | (rw [e3 ‹_› _ ‹_›]; simp; omega) | grind)
def t155 : Tab := tabL [(155, c155)] t154
theorem t155o : t155.Ok Tryz.prog := tabL_ok t154o ⟨k155, trivial⟩
def c152 : Con := con (a1 (aL .V)) (fun r => [Geo.near r = true, r.length ≤ 100000]) (fun r => .int .i64 (Geo.area r))
theorem k152 : c152.Ok Tryz.prog 152 := con_ok (cx_ok t155o) (raw := noRaw) (fun r => [lp 3 8 r.length (fun _ => []) [] (fun k => [(3, .int .i64 (ar r k))]) (fun _ => [])]
  ) (fun _ => ⟨_, rfl⟩) fun r hp => by_vc (q := (0 = (0 : Int) ∧ 0 = ar r 0 ∧ (0 : Nat) ≤ r.length) ∧
 (∀ x : Nat, x ≤ r.length → ((x : Int) < r.length → ix (x : Int) r.length ∧ x < r.length ∧ r.length ≤ 1000000 ∧ bd 2000000000 (nth r x) ∧ bd 2000000000 (Geo.nxt r x) ∧ in64 (ar r x + Geo.cross (nth r x) (Geo.nxt r x)) ∧ in64 ((x : Int) + 1) ∧ (x : Int) + 1 = ((x + 1 : Nat) : Int) ∧ ar r x + Geo.cross (nth r x) (Geo.nxt r x) = ar r (x + 1) ∧ x + 1 ≤ r.length ∧ r.length - (x + 1) < r.length - x) ∧
  (¬ (x : Int) < r.length → ar r x = Geo.area r))) (by kernel_rfl) (by
  change Geo.near r = true ∧ r.length ≤ 100000 at hp
  have hn := fun i hi => @near_bd r hp.1 i hi 2000000000
  have ha := fun k (hk : k ≤ r.length) => ar_bd hp.1 k hk
  have hs := ar_succ r
  have hE : ∀ x : Nat, ¬ (x : Int) < r.length → x ≤ r.length → ar r x = Geo.area r := fun x h1 h2 => by rw [show x = r.length by omega]; rfl
  have hI : ∀ x : Nat, (x : Int) < r.length → in64 (ar r x + Geo.cross (nth r x) (Geo.nxt r x)) := fun x h => by
    have h1 := ha (x + 1) (by omega)
    rw [hs x] at h1
    exact i64w (by unfold Geo.nxt; omega)
  repeat' first | with_reducible apply And.intro | with_reducible intro
  all_goals repeat with_reducible cases ‹_ ∧ _›
  all_goals first | assumption | rfl | exact trivial | exact nb ‹_› | exact nb' ‹_› | omega | exact ix_mod (by omega) | (unfold ix; omega) | (unfold in64; omega) | exact upto_zero _ | exact upto_succ ‹_› ‹_› | (refine upto_succ ‹_› ?_; simp_all; done) | exact hn _ (by omega) (by decide) | exact hn _ (Nat.mod_lt _ (by omega)) (by decide) | exact hI _ ‹_› | exact hE _ ‹_› ‹_› | exact (hs _).symm | grind)
def t152 : Tab := tabL [(152, c152)] t155
theorem t152o : t152.Ok Tryz.prog := tabL_ok t155o ⟨k152, trivial⟩
def c198 : Con := con (a1 aV) (fun _ => []) (fun v => .bool (!Geo.within v 2000)
  )
theorem k198 : c198.Ok Tryz.prog 198 := con_ok (cx_ok t152o) (raw := noRaw) (fun _ => []) (fun _ => ⟨_, rfl⟩) fun v _ => by_vc (q := (0 : Int) ≤ 2000 ∧ (2000 : Int) ≤ 9000000000000000000 ∧ (!Geo.within v 2000) = (!Geo.within v 2000)) (by kernel_rfl) (by
  exact ⟨by decide, by decide, rfl⟩)
def t198 : Tab := tabL [(198, c198)] t152
theorem t198o : t198.Ok Tryz.prog := tabL_ok t152o ⟨k198, trivial⟩
def aF (f : Nat) : Ar Unit where
  enc _ := .fnp f [] []
  dec s := match s with
    | .fnp g [] [] => (match Nat.beq g f with | true => some () | false => none)
    | _ => none
  ok s a h := by
    split at h
    · split at h <;> cases h
      rename_i e; rw [Nat.eq_of_beq_eq_true e]
    · cases h
  pl _ := ⟨_, rfl⟩
def fI {α : Type} (q : α → Bool) (l : List α) : Int := match l.findIdx? q with
  | some i => (i : Int)
  | none => -1
theorem fI_at {t : LT} {l : List t.ty} {q : t.ty → Bool} {k : Nat} (hk : k < l.length) (h : q (t.nth l k) = true) (hu : upto (fun j => q (t.nth l j) = false) k) : (k : Int) = fI q l := by
  have e : l.findIdx? q = some k := by
    rw [List.findIdx?_eq_some_iff_getElem]
    refine ⟨hk, by rw [← t.nth_eq l hk]; exact h, fun j hj => ?_⟩
    have := hu j hj
    dsimp only at this
    rw [t.nth_eq l (by omega)] at this
    rw [this]; simp
  unfold fI; rw [e]
theorem fI_end {t : LT} {l : List t.ty} {q : t.ty → Bool} (hu : upto (fun j => q (t.nth l j) = false) l.length) : -1 = fI q l := by
  have e : l.findIdx? q = none := by
    rw [List.findIdx?_eq_none_iff]
    intro x hx
    obtain ⟨j, hj, rfl⟩ := List.getElem_of_mem hx
    have := hu j hj
    dsimp only at this
    rwa [t.nth_eq l hj] at this
  unfold fI; rw [e]
theorem fI_any {α : Type} (q : α → Bool) (l : List α) : decide (0 ≤ fI q l) = l.any q := by
  unfold fI
  cases e : l.findIdx? q with
  | none =>
    rw [List.findIdx?_eq_none_iff] at e
    symm; show l.any q = decide ((0 : Int) ≤ -1)
    rw [List.any_eq_false.2 (fun x hx => by rw [e x hx]; simp)]; rfl
  | some i =>
    obtain ⟨h1, h2, _⟩ := List.findIdx?_eq_some_iff_getElem.1 e
    show decide (0 ≤ (i : Int)) = _
    rw [decide_eq_true (by omega), List.any_eq_true.2 ⟨_, List.getElem_mem h1, h2⟩]
def c215 : Con := con (ac (aL .V) (a1 (aF 198))) (fun (l, _) => [l.length ≤ 1000000]) (fun (l, _) => .int .i64 (fI (fun v => !Geo.within v 2000) l))
theorem k215 : c215.Ok Tryz.prog 215 := con_ok (cx_ok t198o) (raw := noRaw) (fun (l, _) => [cnt 2 8 l.length (upto fun j => (!Geo.within (nth l j) 2000) = false)]
  ) (fun (_, _) => ⟨_, rfl⟩) fun (l, u) hp => by_vc (q := (0 = (0 : Int) ∧ (0 : Nat) ≤ l.length ∧ upto (fun j => (!Geo.within (nth l j) 2000) = false) 0) ∧
 (∀ x : Nat, x ≤ l.length ∧ upto (fun j => (!Geo.within (nth l j) 2000) = false) x → ((x : Int) < l.length → ix (x : Int) l.length ∧ ((!Geo.within (nth l x) 2000) = true → (x : Int) = fI (fun v => (!Geo.within v 2000)) l) ∧
   ((!Geo.within (nth l x) 2000) = false → in64 ((x : Int) + 1) ∧ (x : Int) + 1 = ((x + 1 : Nat) : Int) ∧ x + 1 ≤ l.length ∧ upto (fun j => (!Geo.within (nth l j) 2000) = false) (x + 1) ∧ l.length - (x + 1) < l.length - x)) ∧
  (¬ (x : Int) < l.length → -1 = fI (fun v => (!Geo.within v 2000)) l))) (by kernel_rfl) (by
  change l.length ≤ 1000000 at hp
  repeat' first | with_reducible apply And.intro | with_reducible intro
  all_goals repeat with_reducible cases ‹_ ∧ _›
  all_goals first | assumption | rfl | exact trivial | exact nb ‹_› | exact nb' ‹_› | omega | exact ix_mod (by omega) | (unfold ix; omega) | (unfold in64; omega) | exact upto_zero _ | exact upto_succ ‹_› ‹_› | (refine upto_succ ‹_› ?_; simp_all; done) | exact fI_at (t := .V) (by omega) ‹_› ‹_› | (obtain rfl : _ = l.length := Nat.le_antisymm ‹_› (by omega); exact fI_end (t := .V) ‹_›) | grind)
def t215 : Tab := tabL [(215, c215)] t198
theorem t215o : t215.Ok Tryz.prog := tabL_ok t198o ⟨k215, trivial⟩
def c197 : Con := con (ac (aL .V) (a1 (aF 198))) (fun (l, _) => [l.length ≤ 1000000]) (fun (l, _) => .bool (l.any fun v => !Geo.within v 2000)
  )
theorem k197 : c197.Ok Tryz.prog 197 := con_ok (cx_ok t215o) (raw := noRaw) (fun (_, _) => []) (fun (_, _) => ⟨_, rfl⟩) fun (l, u) hp => by_vc (q := l.length ≤ 1000000 ∧ decide (0 ≤ fI (fun v => (!Geo.within v 2000)) l) = List.any l (fun v => (!Geo.within v 2000))) (by kernel_rfl) (by
  change l.length ≤ 1000000 at hp
  exact ⟨hp, fI_any _ _⟩)
def t197 : Tab := tabL [(197, c197)] t215
theorem t197o : t197.Ok Tryz.prog := tabL_ok t215o ⟨k197, trivial⟩
def c151 : Con := con (a1 (aL .V)) (fun l => [l.length ≤ 1000000]) (fun l => .bool (Geo.near l)
  )
theorem k151 : c151.Ok Tryz.prog 151 := con_ok (cx_ok t197o) (raw := noRaw) (fun _ => []) (fun _ => ⟨_, rfl⟩) fun l hp => by_vc (q := l.length ≤ 1000000 ∧ (!List.any l (fun v => (!Geo.within v 2000))) = Geo.near l) (by kernel_rfl) (by
  change l.length ≤ 1000000 at hp
  refine ⟨hp, ?_⟩
  unfold Geo.near; rw [List.any_eq_not_all_not]; simp)
def t151 : Tab := tabL [(151, c151)] t197
theorem t151o : t151.Ok Tryz.prog := tabL_ok t197o ⟨k151, trivial⟩
def tP (r : Geo.Ring) (i : Nat) : Prop := ¬ Geo.turn (Geo.prv r i) (nth r i) (Geo.nxt r i) = 0
def pairB (r : Geo.Ring) (i k : Nat) : Bool := (decide (¬ (k : Int) = i + 1) && (decide (¬ (i : Int) = 0) || decide (¬ (k : Int) = r.length - 1))) && decide (¬ Geo.meetP (Geo.edge r i) (Geo.edge r k) = 0)
theorem up2 {p : Nat → Nat → Prop} {i k n : Nat} (h : ∀ j, i < j → j < k → p i j) (hk : ¬ (k : Int) < n) : ∀ j, i < j → j < n → p i j := fun j h1 h2 => h j h1 (by omega)
theorem validPB_iff (r : Geo.Ring) : Geo.validP r = true ↔ 3 ≤ r.length ∧ r.length ≤ 40 ∧ Geo.near r = true ∧ 0 < Geo.area r ∧ (∀ i, i < r.length → tP r i) ∧ (∀ i k, i < k → k < r.length → pairB r i k = false) := by
  unfold Geo.validP tP pairB
  simp only [Bool.and_eq_true, decide_eq_true_eq, List.all_eq_true, List.mem_range, Bool.or_eq_true, bne_iff_ne, beq_iff_eq, Bool.and_eq_false_imp, decide_eq_false_iff_not, ne_eq, and_assoc, Decidable.not_not]
  constructor
  · rintro ⟨h1, h2, h3, h4, h5, h6⟩
    refine ⟨h1, h2, h3, h4, h5, fun i k hi hk h => ?_⟩
    rcases h6 i (by omega) k hk with (h7 | h7) | h7
    · rcases h7 with h7 | h7 <;> omega
    · omega
    · exact h7
  · rintro ⟨h1, h2, h3, h4, h5, h6⟩
    refine ⟨h1, h2, h3, h4, h5, fun i hi k hk => ?_⟩
    by_cases h7 : k ≤ i
    · exact .inl (.inl (.inl h7))
    · by_cases h8 : k = i + 1
      · exact .inl (.inl (.inr h8))
      · by_cases h9 : i = 0 ∧ k = r.length - 1
        · exact .inl (.inr h9)
        · exact .inr (h6 i k (by omega) hk ⟨by omega, by omega⟩)
def c83 : Con := con (a1 (aL .V)) (fun r => [r.length ≤ 1000]) (fun r => .bool (Geo.validP r))
theorem k83 : c83.Ok Tryz.prog 83 := con_ok (cx_ok t151o) (raw := noRaw) (fun r => [jP 4 [3 ≤ r.length, r.length ≤ 40, Geo.near r = true, 0 < Geo.area r], cnt 5 29 r.length (upto (tP r)), lp 12 47 r.length (fun i => [upto (fun i => ∀ k, i < k → k < r.length → pairB r i k = false) i]) [] (fun _ => []) (fun _ => []) fun i => [(15, .mk Nat (fun F _ => natAt F 8) [] (fun k => [i < k, k ≤ r.length, ∀ j, i < j → j < k → pairB r i j = false]) (fun k => [(8, .int .i64 (k : Int))]) (fun _ => []) (fun k => r.length - k) fun k => [jb 18 82 (pairB r i k)])]]
  ) (fun _ => ⟨_, rfl⟩) fun r hp => by_vc (q := (((r.length : Int) < 3 → false = Geo.validP r) ∧
  (¬ (r.length : Int) < 3 → (40 < (r.length : Int) → false = Geo.validP r) ∧
   (¬ 40 < (r.length : Int) → r.length ≤ 1000000 ∧ ((!Geo.near r) = true → false = Geo.validP r) ∧
    ((!Geo.near r) = false → Geo.near r = true ∧ r.length ≤ 100000 ∧ (Geo.area r ≤ 0 → false = Geo.validP r) ∧
     (¬ Geo.area r ≤ 0 → (3 : Nat) ≤ r.length ∧ r.length ≤ 40 ∧ Geo.near r = true ∧ 0 < Geo.area r))))) ∧
 (∀ y : Unit, (3 : Nat) ≤ r.length ∧ r.length ≤ 40 ∧ Geo.near r = true ∧ 0 < Geo.area r → (0 = (0 : Int) ∧ (0 : Nat) ≤ r.length ∧ upto (tP r) 0) ∧
  (∀ x : Nat, x ≤ r.length ∧ upto (tP r) x → ((x : Int) < r.length → ix (x : Int) r.length ∧ x < r.length ∧ r.length ≤ 1000000 ∧ x < r.length ∧ r.length ≤ 1000000 ∧ bd 1000000000 (Geo.prv r x) ∧ bd 1000000000 (nth r x) ∧ bd 1000000000 (Geo.nxt r x) ∧ (Geo.turn (Geo.prv r x) (nth r x) (Geo.nxt r x) = 0 → false = Geo.validP r) ∧
    (¬ Geo.turn (Geo.prv r x) (nth r x) (Geo.nxt r x) = 0 → in64 ((x : Int) + 1) ∧ (x : Int) + 1 = ((x + 1 : Nat) : Int) ∧ x + 1 ≤ r.length ∧ upto (tP r) (x + 1) ∧ r.length - (x + 1) < r.length - x)) ∧
   (¬ (x : Int) < r.length → r.length ≤ 1000 ∧ (0 = (0 : Int) ∧ (0 : Nat) ≤ r.length ∧ upto (fun i => ∀ k : Nat, i < k → k < r.length → pairB r i k = false) 0) ∧
    (∀ x_1 : Nat, x_1 ≤ r.length ∧ upto (fun i => ∀ k : Nat, i < k → k < r.length → pairB r i k = false) x_1 → ((x_1 : Int) < r.length → in64 ((x_1 : Int) + 1) ∧ ((x_1 : Int) + 1 = ((x_1 + 1 : Nat) : Int) ∧ x_1 < x_1 + 1 ∧ x_1 + 1 ≤ r.length ∧ (∀ j : Nat, x_1 < j → j < x_1 + 1 → pairB r x_1 j = false)) ∧
      (∀ x_2 : Nat, x_1 < x_2 ∧ x_2 ≤ r.length ∧ (∀ j : Nat, x_1 < j → j < x_2 → pairB r x_1 j = false) → ((x_2 : Int) < r.length → (in64 ((x_1 : Int) + 1) ∧ (¬ (x_2 : Int) = x_1 + 1 → (¬ (x_1 : Int) = 0 → ix (x_1 : Int) (Geo.edges r).length ∧ x_1 < (Geo.edges r).length ∧ ix (x_2 : Int) (Geo.edges r).length ∧ x_2 < (Geo.edges r).length ∧ decide (¬ Geo.meetP (nthS (Geo.edges r) x_1) (nthS (Geo.edges r) x_2) = 0) = pairB r x_1 x_2) ∧
          (¬ (¬ (x_1 : Int) = 0) → in64 ((r.length : Int) - 1) ∧ (¬ (x_2 : Int) = r.length - 1 → ix (x_1 : Int) (Geo.edges r).length ∧ x_1 < (Geo.edges r).length ∧ ix (x_2 : Int) (Geo.edges r).length ∧ x_2 < (Geo.edges r).length ∧ decide (¬ Geo.meetP (nthS (Geo.edges r) x_1) (nthS (Geo.edges r) x_2) = 0) = pairB r x_1 x_2) ∧
           (¬ (¬ (x_2 : Int) = r.length - 1) → false = pairB r x_1 x_2))) ∧
         (¬ (¬ (x_2 : Int) = x_1 + 1) → false = pairB r x_1 x_2)) ∧
        (∀ y_1 : Unit, (pairB r x_1 x_2 = true → false = Geo.validP r) ∧
         (pairB r x_1 x_2 = false → in64 ((x_2 : Int) + 1) ∧ (x_2 : Int) + 1 = ((x_2 + 1 : Nat) : Int) ∧ x_1 < x_2 + 1 ∧ x_2 + 1 ≤ r.length ∧ (∀ j : Nat, x_1 < j → j < x_2 + 1 → pairB r x_1 j = false) ∧ r.length - (x_2 + 1) < r.length - x_2))) ∧
       (¬ (x_2 : Int) < r.length → in64 ((x_1 : Int) + 1) ∧ (x_1 : Int) + 1 = ((x_1 + 1 : Nat) : Int) ∧ x_1 + 1 ≤ r.length ∧ upto (fun i => ∀ k : Nat, i < k → k < r.length → pairB r i k = false) (x_1 + 1) ∧ r.length - (x_1 + 1) < r.length - x_1))) ∧
     (¬ (x_1 : Int) < r.length → true = Geo.validP r)))))) (by kernel_rfl) (by
  change r.length ≤ 1000 at hp
  have iff := validPB_iff r
  have hf : (Geo.validP r = true → False) → false = Geo.validP r := fun h => by cases e : Geo.validP r; rfl; exact (h e).elim
  have el : 3 ≤ r.length → (Geo.edges r).length = r.length := fun h => edges_length r (by omega)
  have en : Geo.near r = true → ∀ i, i < r.length → bd 1000000000 (nth r i) := fun h i hi => near_bd h hi
  have ep : 3 ≤ r.length → ∀ i, i < r.length → nthS (Geo.edges r) i = Geo.edge r i := fun h i hi => nthS_edges (by omega) hi
  have hE : 3 ≤ r.length → r.length ≤ 40 → Geo.near r = true → 0 < Geo.area r → ∀ x y : Nat, ¬ (x : Int) < r.length → ¬ (y : Int) < r.length → upto (tP r) x → upto (fun i => ∀ k : Nat, i < k → k < r.length → pairB r i k = false) y → true = Geo.validP r := fun h1 h2 h3 h4 x y hx hy h5 h6 =>
    (iff.2 ⟨h1, h2, h3, h4, fun i hi => h5 i (by omega), fun i k hi hk => h6 i (by omega) k hi hk⟩).symm
  have b0 : ∀ x y : Nat, ¬ (¬ (y : Int) = x + 1) → false = pairB r x y := fun x y h => by unfold pairB; rw [decide_eq_false h]; rfl
  have b1 : ∀ x y : Nat, ¬ (¬ (x : Int) = 0) → ¬ (¬ (y : Int) = r.length - 1) → false = pairB r x y := fun x y h1 h2 => by unfold pairB; rw [decide_eq_false h1, decide_eq_false h2]; simp
  have b2 : ∀ x y : Nat, 3 ≤ r.length → ¬ (y : Int) = x + 1 → ¬ (x : Int) = 0 → (x : Int) < r.length → (y : Int) < r.length → decide (¬ Geo.meetP (nthS (Geo.edges r) x) (nthS (Geo.edges r) y) = 0) = pairB r x y := fun x y h0 h1 h2 h3 h4 => by
    unfold pairB; rw [decide_eq_true h1, decide_eq_true h2, ep h0 x (by omega), ep h0 y (by omega)]; rfl
  have b3 : ∀ x y : Nat, 3 ≤ r.length → ¬ (y : Int) = x + 1 → ¬ (y : Int) = r.length - 1 → (x : Int) < r.length → (y : Int) < r.length → decide (¬ Geo.meetP (nthS (Geo.edges r) x) (nthS (Geo.edges r) y) = 0) = pairB r x y := fun x y h0 h1 h2 h3 h4 => by
    unfold pairB; rw [decide_eq_true h1, decide_eq_true h2, ep h0 x (by omega), ep h0 y (by omega), Bool.or_true]; rfl
  repeat' first | with_reducible apply And.intro | with_reducible intro
  all_goals repeat with_reducible cases ‹_ ∧ _›
  all_goals first | assumption | rfl | exact trivial | exact nb ‹_› | exact nb' ‹_› | omega | exact ix_mod (by omega) | (unfold ix; omega) | (unfold in64; omega) | exact upto_zero _ | exact upto_succ ‹_› ‹_› | (refine upto_succ ‹_› ?_; simp_all; done) | exact en ‹_› _ (by omega) | exact en ‹_› _ (Nat.mod_lt _ (by omega)) | (rw [el ‹_›]; exact ix_nat (by omega)) | (rw [el ‹_›]; omega) | exact b0 _ _ ‹_› | exact b1 _ _ ‹_› ‹_› | exact b2 _ _ ‹_› ‹_› ‹_› ‹_› ‹_› | exact b3 _ _ ‹_› ‹_› ‹_› ‹_› ‹_› | exact hE ‹_› ‹_› ‹_› ‹_› _ _ ‹_› ‹_› ‹_› ‹_› | (refine hf fun h => ?_; have h := iff.1 h; first | omega | (have h4 := ‹(!Geo.near r) = true›; rw [h.2.2.1] at h4; cases h4) | (exact absurd ‹Geo.turn _ _ _ = 0› (h.2.2.2.2.1 _ (by omega))) | (have h4 := ‹pairB r _ _ = true›; rw [h.2.2.2.2.2 _ _ ‹_ < _› (by omega)] at h4; cases h4)) | exact upto_succ ‹_› (show tP r _ from ‹¬ Geo.turn _ _ _ = 0›) | (intro j h1 h2; omega) | exact upto_succ ‹_› (up2 (p := fun i k => pairB r i k = false) ‹_› ‹_›) | grind)
def t83 : Tab := tabL [(83, c83)] t151
theorem t83o : t83.Ok Tryz.prog := tabL_ok t151o ⟨k83, trivial⟩
end
end Go.Proofs.YtdaeofhdgabhjaaGreat
namespace Go.Proofs.YtdaeofhdgabhjaaGreat
open Go.RowKit
set_option maxHeartbeats 2000000 in
theorem grow_any (n : Nat) (w : World) (h0 : 0 < n) (hn : n ≤ 100000) :
    Calls Tryz.prog 207 #[.slice none 0 0, .int .i64 n] w fun e w' => ∃ v, e = .returned v ∧ w'.ownsRow w.heap.size 44 2 v 0 [] ∧ Below w.heap.size w w' := by
  have hinf : (Tryz.prog.info? 44).map (fun i => (i.zero, i.size, i.bytes)) = some (some (.agg #[.int .i64 0, .int .i64 0]), 2, 16) := by kernel_rfl
  obtain ⟨i, hi1, hi2⟩ := Option.map_eq_some_iff.1 hinf
  simp only [Prod.mk.injEq] at hi2
  obtain ⟨i1, i2, i3⟩ := hi2
  have hold : (Builtin.firstCells i.size 0 (.slice none 0 0)).run Tryz.prog w.drew = .ok ([] : List Value).toArray w.drew := run_firstCells_none w.drew i.size 0 0 0
  have hrz : ∀ ty, (Builtin.append_ #[23, 3] ty #[.slice none 0 0, .int .i64 n]).run Tryz.prog w = .ok (.slice (some ⟨w.heap.size, 0, none⟩) n (grownCap w n 0 44))
      (w.drew.alloc (.cells (#[] ++ Builtin.zeroCells #[.int .i64 0, .int .i64 0] n ++ Builtin.zeroCells #[.int .i64 0, .int .i64 0] (grownCap w n 0 44 - n)) 44)) := fun ty => by
    have h := Lib.run_append_grow_zeros w 23 3 ty 44 i (.agg #[.int .i64 0, .int .i64 0]) .i64 .i64 Tryz.underlying23 Tryz.underlying3 hi1 i1 none 0 0 [] hold n h0 (by omega) (by omega) (by omega) (by rw [i3]; omega)
      (by unfold Builtin.nextslicecap; rw [if_pos (by omega), i3]; omega)
    rw [Nat.zero_add] at h
    exact h
  have hGn : n ≤ grownCap w n 0 44 := grownCap_ge w _ _ _
  have hGm := grownCap_le_maxLen w n 0 44 (by unfold maxLen; omega)
  obtain ⟨G, hG⟩ : ∃ G, G = grownCap w n 0 44 := ⟨_, rfl⟩
  rw [← hG] at hrz hGn hGm
  have hG63 : G ≤ 9223372036854775807 := by unfold maxLen at hGm; omega
  have hzc : ∀ m, (Builtin.zeroCells #[.int .i64 0, .int .i64 0] m).size = m * 2 := by intro m; unfold Builtin.zeroCells; simp
  obtain ⟨cur, hcur⟩ : ∃ cur, cur = (#[] ++ Builtin.zeroCells #[.int .i64 0, .int .i64 0] n ++ Builtin.zeroCells #[.int .i64 0, .int .i64 0] (G - n) : Array Value) := ⟨_, rfl⟩
  have hcs : cur.size = G * 2 := by rw [hcur]; simp [hzc]; omega
  rw [← hcur] at hrz
  have hrow : (w.drew.alloc (.cells cur 44)).ownsRow w.heap.size 44 2 (.slice (some ⟨w.heap.size, 0, none⟩) 0 G) 0 [] :=
    ⟨by simp, .inr ⟨w.heap.size, G, cur, rfl, Nat.le_refl _, Blk.new w.drew 44 cur, by omega, hGm, hcs, by simp⟩⟩
  have hbl : Below w.heap.size w (w.drew.alloc (.cells cur 44)) := ((Below.refl _ _).drew).alloc (Nat.le_refl _) _
  clear hold hinf hi1 i1 i2 i3 hcur hcs hzc hG hGm
  go_enter Tryz.func207, Tryz.ntmps207
  go_wp2_with (at_builtin; refine Lib.wpList_append_run _ rfl _ _ _ _ rfl _ _ rfl rfl _ _ (hrz _) ?_)
  all_goals
    go_ret
    exact ⟨_, rfl, hrow, hbl⟩
theorem satn_grow {n : Nat} (h0 : 0 < n) (hn : n ≤ 100000) : SatN Tryz.prog 207 [.int .i64 n] 44 2 [] 0 [] := by
  refine ⟨by kernel_rfl, by decide, fun C w vs hC h => ?_⟩
  unfold RepL at h
  obtain ⟨v, r, rfl, h1, h2⟩ := h
  unfold RepV at h1
  unfold RepL at h2
  subst h1 h2
  refine (grow_any n w h0 hn).mono ?_
  rintro e w' ⟨v, rfl, ⟨_, h3⟩, hb⟩
  rcases h3 with ⟨rfl, _⟩ | ⟨g, cap, cur, rfl, h4, h5, _, h6, h7, _⟩
  · exact ⟨_, [], none, 0, rfl, hb, by unfold RepL; rfl, .inl ⟨rfl, rfl, rfl, rfl, rfl⟩⟩
  · exact ⟨_, [], some g, cap, rfl, hb, by unfold RepL; rfl, .inr ⟨g, cur, rfl, rfl, Nat.zero_le _, h4, h5, h7, Nat.zero_le _, h6, fun i x hi => by simp at hi⟩⟩
def d207 : List SV → Option Nat
  | [.nil, .int .i64 (.ofNat n)] => some n
  | _ => none
theorem d207_some {s : List SV} {n : Nat} (h : d207 s = some n) : s = [.nil, .int .i64 (n : Int)] := by
  unfold d207 at h
  split at h
  · cases h; rfl
  · cases h
def c207 : Con := ⟨Nat, d207, fun n => [0 < n, n ≤ 100000], .ownN 44 .V (fun _ => [])⟩
theorem k207 : c207.Ok Tryz.prog 207 := by
  intro s n hd hp
  rw [d207_some hd]
  exact ⟨[.int .i64 ((show Nat from n : Nat) : Int)], rfl, satn_grow (hp _ List.mem_cons_self) (hp _ (List.mem_cons_of_mem _ List.mem_cons_self))⟩
end Go.Proofs.YtdaeofhdgabhjaaGreat
namespace Go.Proofs.YtdaeofhdgabhjaaGreat
open Go.RowKit
set_option maxRecDepth 100000
noncomputable section
open Geo (nth nthR)
def aPt : Ar Geo.Pt where
  enc p := .pro [.int .i64 p.x, .int .i64 p.y, .int .i64 p.den] 0
  dec s := match s with
    | .pro [.int .i64 x, .int .i64 y, .int .i64 z] 0 => some ⟨x, y, z⟩
    | _ => none
  ok s a h := by (split at h <;> cases h; rfl)
  pl _ := ⟨_, rfl⟩
def jPU (key : Nat) (I : List Prop) (u : Frm) : Nat × Ann := (key + 10000, .mk Unit (fun _ _ => some ()) [] (fun _ => I) (fun _ => u) (fun _ => []) (fun _ => 0) (fun _ => []))
def parP (p : Geo.Pt) (l : List Geo.S) : Bool := l.foldl (fun b s => b != Geo.hitP s p) false
theorem parP_succ {p : Geo.Pt} {l : List Geo.S} {k : Nat} (h : k < l.length) : parP p (l.take (k + 1)) = (parP p (l.take k) != Geo.hitP (nthS l k) p) := by
  unfold parP
  rw [List.take_add_one, List.getElem?_eq_getElem h, List.foldl_append, nthS_eq h]; rfl
theorem scanP_at {p : Geo.Pt} : ∀ {l : List Geo.S} {k : Nat} (ins : Bool), k < l.length → (∀ j, j < k → Geo.onP (nthS l j) p = false) → Geo.onP (nthS l k) p = true → Geo.scanP p l ins = 1
  | [], k, ins, h, _, _ => by simp at h
  | s :: l, 0, ins, h, _, h2 => by
    unfold Geo.scanP
    rw [show Geo.onP s p = true from h2]; rfl
  | s :: l, k + 1, ins, h, h1, h2 => by
    unfold Geo.scanP
    rw [show Geo.onP s p = false from h1 0 (by omega)]
    exact scanP_at (l := l) (k := k) _ (by simpa using h) (fun j hj => h1 (j + 1) (by omega)) h2
theorem scanP_end {p : Geo.Pt} : ∀ {l : List Geo.S} (ins : Bool), (∀ j, j < l.length → Geo.onP (nthS l j) p = false) → Geo.scanP p l ins = if l.foldl (fun b s => b != Geo.hitP s p) ins = true then 2 else 0
  | [], ins, _ => rfl
  | s :: l, ins, h1 => by
    unfold Geo.scanP
    rw [show Geo.onP s p = false from h1 0 (by simp)]
    exact scanP_end (l := l) _ (fun j hj => h1 (j + 1) (by simpa using hj))
def pb (r : Geo.Ring) (p : Geo.Pt) (k : Nat) : Bool := parP p ((Geo.edges r).take k)
theorem edgeP_bd {r : Geo.Ring} (h : Geo.validP r = true) {j : Nat} (hj : j < (Geo.edges r).length) : bd 2000 (nthS (Geo.edges r) j).a ∧ bd 2000 (nthS (Geo.edges r) j).b := edge_bd (by rw [← Geo.valid_eq]; exact h) hj
def cOK (a b : Geo.V) : Prop := (-4000000000000000000 ≤ a.x * b.y ∧ a.x * b.y ≤ 4000000000000000000) ∧ (-4000000000000000000 ≤ a.y * b.x ∧ a.y * b.x ≤ 4000000000000000000)
def c111b : Con := con (ac aV (a1 aV)) (fun (a, b) => [cOK a b]) (fun (a, b) => .int .i64 (Geo.cross a b)
  )
theorem k111b : c111b.Ok Tryz.prog 111 := con_ok (cx_ok t83o) (raw := noRaw) (fun (_, _) => []) (fun (_, _) => ⟨_, rfl⟩) fun (a, b) hp => by_vc (q := in64 (a.x * b.y) ∧ in64 (a.y * b.x) ∧ in64 (a.x * b.y - a.y * b.x) ∧ a.x * b.y - a.y * b.x = Geo.cross a b) (by kernel_rfl) (by
  change cOK a b at hp
  unfold cOK at hp
  exact ⟨i64w (by omega), i64w (by omega), i64w (by omega), rfl⟩)
def t111b : Tab := tabL [(111, c111b)] t83
theorem t111bo : t111b.Ok Tryz.prog := tabL_ok t83o ⟨k111b, trivial⟩
def c186 : Con := con (ac aV (a1 aPt)) (fun (v, p) => [PtB p, bd 10000 v]) (fun (v, p) => aV.enc (Geo.toV p v)
  )
theorem k186 : c186.Ok Tryz.prog 186 := con_ok (cx_ok t111bo) (raw := noRaw) (fun (_, _) => []) (fun (_, _) => ⟨_, rfl⟩) fun (v, p) hp => by_vc (q := in64 (v.x * p.den) ∧ in64 (p.x - v.x * p.den) ∧ in64 (v.y * p.den) ∧ in64 (p.y - v.y * p.den) ∧ p.x - v.x * p.den = (Geo.toV p v).x ∧ p.y - v.y * p.den = (Geo.toV p v).y) (by kernel_rfl) (by
  change PtB p ∧ bd 10000 v at hp
  have h := hp.1.off hp.2
  have h2 : (-600000000000 ≤ p.x ∧ p.x ≤ 600000000000) ∧ (-600000000000 ≤ p.y ∧ p.y ≤ 600000000000) := hp.1.2
  exact ⟨i64w (by omega), i64w (by omega), i64w (by omega), i64w (by omega), rfl, rfl⟩)
def t186 : Tab := tabL [(186, c186)] t111b
theorem t186o : t186.Ok Tryz.prog := tabL_ok t111bo ⟨k186, trivial⟩
def c140 : Con := con (ac (aL .V) (a1 aT)) (fun (r, _) => [r.length ≤ 1000]) (fun (r, p) => .int .i64 (Geo.whereP r p))
theorem k140 : c140.Ok Tryz.prog 140 := con_ok (cx_ok t186o) (raw := noRaw) (fun (r, p) => [jP 3 [Geo.validP r = true, Geo.validPt p = true], lp 6 25 (Geo.edges r).length (fun k => [upto (fun j => Geo.onP (nE r j) p = false) k]) [] (fun k => [(6, .bool (pb r p k))]) (fun _ => []) fun k => [jb 11 77 (Geo.onP (nE r k) p), jb 14 91 (Geo.hitP (nE r k) p), jPU 15 [Geo.onP (nE r k) p = false] [(6, .bool (pb r p (k + 1)))]]]
  ) (fun (_, _) => ⟨_, rfl⟩) fun (r, p) hp => by_vc (q := (r.length ≤ 1000 ∧ ((!Geo.validP r) = true → 0 = Geo.whereP r p) ∧
  ((!Geo.validP r) = false → ((!Geo.validPt p) = true → 0 = Geo.whereP r p) ∧
   ((!Geo.validPt p) = false → Geo.validP r = true ∧ Geo.validPt p = true))) ∧
 (∀ y : Unit, Geo.validP r = true ∧ Geo.validPt p = true → r.length ≤ 1000 ∧ (0 = (0 : Int) ∧ false = pb r p 0 ∧ (0 : Nat) ≤ (Geo.edges r).length ∧ upto (fun j => Geo.onP (nE r j) p = false) 0) ∧
  (∀ x : Nat, x ≤ (Geo.edges r).length ∧ upto (fun j => Geo.onP (nE r j) p = false) x → ((x : Int) < (Geo.edges r).length → (ix (x : Int) (Geo.edges r).length ∧ x < (Geo.edges r).length ∧ PtB p ∧ bd 10000 (nE r x).a ∧ PtB p ∧ bd 10000 (nE r x).b ∧ bd 1000000000 (nE r x).b ∧ bd 1000000000 (nE r x).a ∧ cOK (Geo.sub (nE r x).b (nE r x).a) (Geo.toV p (nE r x).a) ∧ ((Geo.cross (Geo.sub (nE r x).b (nE r x).a) (Geo.toV p (nE r x).a) = 0 → (Min.min (Geo.toV p (nE r x).a).x (Geo.toV p (nE r x).b).x ≤ 0 → (0 ≤ Max.max (Geo.toV p (nE r x).a).x (Geo.toV p (nE r x).b).x → (Min.min (Geo.toV p (nE r x).a).y (Geo.toV p (nE r x).b).y ≤ 0 → decide (0 ≤ Max.max (Geo.toV p (nE r x).a).y (Geo.toV p (nE r x).b).y) = Geo.onP (nE r x) p) ∧
         (¬ Min.min (Geo.toV p (nE r x).a).y (Geo.toV p (nE r x).b).y ≤ 0 → false = Geo.onP (nE r x) p)) ∧
        (¬ 0 ≤ Max.max (Geo.toV p (nE r x).a).x (Geo.toV p (nE r x).b).x → false = Geo.onP (nE r x) p)) ∧
       (¬ Min.min (Geo.toV p (nE r x).a).x (Geo.toV p (nE r x).b).x ≤ 0 → false = Geo.onP (nE r x) p)) ∧
      (¬ Geo.cross (Geo.sub (nE r x).b (nE r x).a) (Geo.toV p (nE r x).a) = 0 → false = Geo.onP (nE r x) p)) ∧
     (∀ y_1 : Unit, (Geo.onP (nE r x) p = true → 1 = Geo.whereP r p) ∧
      (Geo.onP (nE r x) p = false → (((decide (0 ≤ (Geo.toV p (nE r x).a).y) != decide (0 ≤ (Geo.toV p (nE r x).b).y)) = true → (decide (0 ≤ (Geo.toV p (nE r x).a).y) == decide (0 < Geo.cross (Geo.sub (nE r x).b (nE r x).a) (Geo.toV p (nE r x).a))) = Geo.hitP (nE r x) p) ∧
        ((decide (0 ≤ (Geo.toV p (nE r x).a).y) != decide (0 ≤ (Geo.toV p (nE r x).b).y)) = false → false = Geo.hitP (nE r x) p)) ∧
       (∀ y_2 : Unit, (Geo.hitP (nE r x) p = true → (!pb r p x) = pb r p (x + 1) ∧ Geo.onP (nE r x) p = false) ∧
        (Geo.hitP (nE r x) p = false → pb r p x = pb r p (x + 1) ∧ Geo.onP (nE r x) p = false))))) ∧
    (∀ y_1 : Unit, Geo.onP (nE r x) p = false → in64 ((x : Int) + 1) ∧ (x : Int) + 1 = ((x + 1 : Nat) : Int) ∧ pb r p (x + 1) = pb r p (x + 1) ∧ x + 1 ≤ (Geo.edges r).length ∧ upto (fun j => Geo.onP (nE r j) p = false) (x + 1) ∧ (Geo.edges r).length - (x + 1) < (Geo.edges r).length - x)) ∧
   (¬ (x : Int) < (Geo.edges r).length → (pb r p x = true → 2 = Geo.whereP r p) ∧
    (pb r p x = false → 0 = Geo.whereP r p))))) (by kernel_rfl) (by
  change r.length ≤ 1000 at hp
  have e0 : pb r p 0 = false := rfl
  have es : ∀ k : Nat, (k : Int) < (Geo.edges r).length → pb r p (k + 1) = (pb r p k != Geo.hitP (nE r k) p) := fun k h => parP_succ (by omega)
  have hw0 : Geo.validP r = false ∨ Geo.validPt p = false → 0 = Geo.whereP r p := fun h => by unfold Geo.whereP; rcases h with h | h <;> simp [h]
  have hw : Geo.validP r = true → Geo.validPt p = true → Geo.whereP r p = Geo.scanP p (Geo.edges r) false := fun h1 h2 => by unfold Geo.whereP; simp [h1, h2]
  have eb : Geo.validP r = true → ∀ j : Nat, (j : Int) < (Geo.edges r).length → bd 2000 (nthS (Geo.edges r) j).a ∧ bd 2000 (nthS (Geo.edges r) j).b := fun h j hj => edgeP_bd h (by omega)
  have el : (Geo.edges r).length ≤ 1000 := by unfold Geo.edges; split <;> simp <;> omega
  have s1 : ∀ j : Nat, (j : Int) < (Geo.edges r).length → upto (fun j => Geo.onP (nE r j) p = false) j → Geo.onP (nE r j) p = true → Geo.scanP p (Geo.edges r) false = 1 := fun j h1 h2 h3 => scanP_at false (by omega) h2 h3
  have s2 : ∀ k : Nat, ¬ (k : Int) < (Geo.edges r).length → k ≤ (Geo.edges r).length → upto (fun j => Geo.onP (nE r j) p = false) k → Geo.scanP p (Geo.edges r) false = if pb r p k = true then 2 else 0 := fun k h1 h2 h => by
    obtain rfl : k = (Geo.edges r).length := by omega
    rw [scanP_end false h]; unfold pb parP; rw [List.take_length]
  have gV : Geo.validP r = true → Geo.validPt p = true → ∀ j : Nat, (j : Int) < (Geo.edges r).length → cOK (Geo.sub (nthS (Geo.edges r) j).b (nthS (Geo.edges r) j).a) (Geo.toV p (nthS (Geo.edges r) j).a) := fun h1 h2 j hj => by
    have b1 := sub_bd (eb h1 j hj).2 (eb h1 j hj).1
    have hB := PtB.of h2
    have b2 := hB.off (eb h1 j hj).1.mono
    have h2 : (-600000000000 ≤ p.x ∧ p.x ≤ 600000000000) ∧ (-600000000000 ≤ p.y ∧ p.y ≤ 600000000000) := hB.2
    have b3 : bd 2000000000000 (Geo.toV p (nthS (Geo.edges r) j).a) := by unfold bd Geo.toV; dsimp only; omega
    exact ⟨by have := mul_bd b1.1 b3.2; omega, by have := mul_bd b1.2 b3.1; omega⟩
  have oN : ∀ j : Nat, (¬ Geo.sideP (nE r j) p = 0 ∨ ¬ Min.min (Geo.toV p (nE r j).a).x (Geo.toV p (nE r j).b).x ≤ 0 ∨ ¬ 0 ≤ Max.max (Geo.toV p (nE r j).a).x (Geo.toV p (nE r j).b).x ∨ ¬ Min.min (Geo.toV p (nE r j).a).y (Geo.toV p (nE r j).b).y ≤ 0) → false = Geo.onP (nE r j) p := fun j h => by
    symm; unfold Geo.onP
    rcases h with h | h | h | h
    · rw [beq_eq_false_iff_ne.2 h]; simp
    · rw [decide_eq_false h]; simp
    · rw [decide_eq_false h]; simp
    · rw [decide_eq_false h]; simp
  have oY : ∀ j : Nat, Geo.sideP (nE r j) p = 0 → Min.min (Geo.toV p (nE r j).a).x (Geo.toV p (nE r j).b).x ≤ 0 → 0 ≤ Max.max (Geo.toV p (nE r j).a).x (Geo.toV p (nE r j).b).x → Min.min (Geo.toV p (nE r j).a).y (Geo.toV p (nE r j).b).y ≤ 0 → decide (0 ≤ Max.max (Geo.toV p (nE r j).a).y (Geo.toV p (nE r j).b).y) = Geo.onP (nE r j) p := fun j h1 h2 h3 h4 => by
    unfold Geo.onP
    rw [beq_iff_eq.2 h1, decide_eq_true h2, decide_eq_true h3, decide_eq_true h4]; simp
  have hN : ∀ j : Nat, (decide (0 ≤ (Geo.toV p (nE r j).a).y) != decide (0 ≤ (Geo.toV p (nE r j).b).y)) = false → false = Geo.hitP (nE r j) p := fun j h => by unfold Geo.hitP; rw [h]; rfl
  have hY : ∀ j : Nat, (decide (0 ≤ (Geo.toV p (nE r j).a).y) != decide (0 ≤ (Geo.toV p (nE r j).b).y)) = true → (decide (0 ≤ (Geo.toV p (nE r j).a).y) == decide (0 < Geo.sideP (nE r j) p)) = Geo.hitP (nE r j) p := fun j h => by unfold Geo.hitP; rw [h]; rfl
  repeat' first | with_reducible apply And.intro | with_reducible intro
  all_goals repeat with_reducible cases ‹_ ∧ _›
  all_goals first | assumption | rfl | exact trivial | exact nb ‹_› | exact nb' ‹_› | omega | exact ix_mod (by omega) | (unfold ix; omega) | (unfold in64; omega) | exact upto_zero _ | exact upto_succ ‹_› ‹_› | (refine upto_succ ‹_› ?_; simp_all; done) | exact PtB.of ‹_› | exact (eb ‹_› _ ‹_›).1.mono | exact (eb ‹_› _ ‹_›).2.mono | exact gV ‹_› ‹_› _ ‹_› | exact oY _ ‹_› ‹_› ‹_› ‹_› | exact oN _ (.inl ‹_›) | exact oN _ (.inr (.inl ‹_›)) | exact oN _ (.inr (.inr (.inl ‹_›))) | exact oN _ (.inr (.inr (.inr ‹_›))) | exact hN _ ‹_› | exact hY _ ‹_› | exact hw0 (.inl (nb' ‹_›)) | exact hw0 (.inr (nb' ‹_›)) | (rw [hw ‹_› ‹_›, s1 _ ‹_› ‹_› ‹_›]; done) | (rw [hw ‹_› ‹_›, s2 _ ‹_› ‹_› ‹_›, ‹pb _ _ _ = _›]; rfl) | (rw [es _ ‹_›, ‹Geo.hitP _ _ = _›]; simp; done) | grind)
def t140 : Tab := tabL [(140, c140)] t186
theorem t140o : t140.Ok Tryz.prog := tabL_ok t186o ⟨k140, trivial⟩
def c65 : Con := con (ac (aL .V) (a1 aV)) (fun (r, _) => [r.length ≤ 1000]) (fun (r, v) => .int .i64 (Geo.whereVP r v)
  )
theorem k65 : c65.Ok Tryz.prog 65 := con_ok (cx_ok t140o) (raw := noRaw) (fun (_, _) => []) (fun (_, _) => ⟨_, rfl⟩) fun (r, v) hp => by_vc (q := (0 : Int) ≤ 4000 ∧ (4000 : Int) ≤ 9000000000000000000 ∧ ((!Geo.within v 4000) = true → 0 = Geo.whereVP r v) ∧
 ((!Geo.within v 4000) = false → r.length ≤ 1000 ∧ Geo.whereP r (Geo.ptOf v) = Geo.whereVP r v)) (by kernel_rfl) (by
  change r.length ≤ 1000 at hp
  have e : Geo.whereVP r v = if (!Geo.within v 4000) = true then 0 else Geo.whereP r (Geo.ptOf v) := rfl
  exact ⟨by decide, by decide, fun h => by rw [e, if_pos h], fun h => ⟨hp, by rw [e, h]; rfl⟩⟩)
def t65 : Tab := tabL [(65, c65)] t140
theorem t65o : t65.Ok Tryz.prog := tabL_ok t140o ⟨k65, trivial⟩
def c89 : Con := con (a1 (aL .V)) (fun r => [r.length ≤ 1000]) (fun r => .int .i64 (if Geo.validP r = true then Geo.area r else 0)
  )
theorem k89 : c89.Ok Tryz.prog 89 := con_ok (cx_ok t65o) (raw := noRaw) (fun _ => []) (fun _ => ⟨_, rfl⟩) fun r hp => by_vc (q := r.length ≤ 1000 ∧ ((!Geo.validP r) = true → 0 = (if Geo.validP r = true then Geo.area r else 0)) ∧
 ((!Geo.validP r) = false → Geo.near r = true ∧ r.length ≤ 100000 ∧ Geo.area r = (if Geo.validP r = true then Geo.area r else 0))) (by kernel_rfl) (by
  change r.length ≤ 1000 at hp
  refine ⟨hp, fun h => by rw [nb' h]; rfl, fun h => ⟨?_, by omega, by rw [nb h]; rfl⟩⟩
  exact ((validPB_iff r).1 (nb h)).2.2.1)
def t89 : Tab := tabL [(89, c89)] t65
theorem t89o : t89.Ok Tryz.prog := tabL_ok t65o ⟨k89, trivial⟩
def t207 : Tab := tabL [(207, c207)] t89
theorem t207o : t207.Ok Tryz.prog := tabL_ok t89o ⟨k207, trivial⟩
def c181 : Con := con (a1 (aL .R)) (fun l => [l.length ≤ 1000, 0 < l.flatten.length, l.flatten.length ≤ 1000]) (fun l => .lst .V l.flatten)
theorem k181 : c181.Ok Tryz.prog 181 := con_ok (cx_ok t207o) (raw := fun r i => Nat.beq r 1 && Nat.beq i 0) (fun l => [lp 3 11 l.length (fun _ => []) [] (fun k => [(3, .int .i64 (((l.take k).flatten.length : Nat) : Int))]) (fun _ => []), lp 11 27 l.length (fun _ => []) [7] (fun k => [(6, .own 7 .V ((l.take k).flatten.length))]) (fun k => [(7, .row 44 .V ((l.take k).flatten))])]
  ) (fun _ => ⟨_, rfl⟩) fun l hp => by_vc (q := (0 = (0 : Int) ∧ 0 = ((List.flatten (List.take 0 l)).length : Int) ∧ (0 : Nat) ≤ l.length) ∧
 (∀ x : Nat, x ≤ l.length → ((x : Int) < l.length → ix (x : Int) l.length ∧ in64 (((List.flatten (List.take x l)).length : Int) + (nthR l x).length) ∧ (((List.flatten (List.take x l)).length : Int) + (nthR l x).length < 0 → False) ∧
   (¬ ((List.flatten (List.take x l)).length : Int) + (nthR l x).length < 0 → in64 ((x : Int) + 1) ∧ (x : Int) + 1 = ((x + 1 : Nat) : Int) ∧ ((List.flatten (List.take x l)).length : Int) + (nthR l x).length = (List.flatten (List.take (x + 1) l)).length ∧ x + 1 ≤ l.length ∧ l.length - (x + 1) < l.length - x)) ∧
  (¬ (x : Int) < l.length → (0 : Nat) < (List.flatten (List.take x l)).length ∧ (List.flatten (List.take x l)).length ≤ 100000 ∧ (0 = (0 : Int) ∧ ([] : List Geo.V).length = (List.flatten (List.take 0 l)).length ∧ ([] : List Geo.V) = List.flatten (List.take 0 l) ∧ (0 : Nat) ≤ l.length) ∧
   (∀ x_1 : Nat, x_1 ≤ l.length → ((x_1 : Int) < l.length → ix (x_1 : Int) l.length ∧ (List.flatten (List.take x_1 l)).length = (List.flatten (List.take x_1 l)).length ∧ (List.flatten (List.take x_1 l)).length + (nthR l x_1).length ≤ 1000000 ∧ in64 ((x_1 : Int) + 1) ∧ (x_1 : Int) + 1 = ((x_1 + 1 : Nat) : Int) ∧ (List.flatten (List.take x_1 l) ++ nthR l x_1).length = (List.flatten (List.take (x_1 + 1) l)).length ∧ List.flatten (List.take x_1 l) ++ nthR l x_1 = List.flatten (List.take (x_1 + 1) l) ∧ x_1 + 1 ≤ l.length ∧ l.length - (x_1 + 1) < l.length - x_1) ∧
    (¬ (x_1 : Int) < l.length → (List.flatten (List.take x_1 l)).length = (List.flatten (List.take x_1 l)).length ∧ List.flatten (List.take x_1 l) = List.flatten l))))) (by kernel_rfl) (by
  change l.length ≤ 1000 ∧ 0 < l.flatten.length ∧ l.flatten.length ≤ 1000 at hp
  have e1 : ∀ x : Nat, (x : Int) < l.length → (l.take (x + 1)).flatten = (l.take x).flatten ++ nthR l x := fun x h => by
    rw [List.take_succ_eq_append_getElem (by omega), List.flatten_append, List.flatten_singleton, nthR_eq (by omega)]
  have e2 : ∀ x : Nat, (l.take x).flatten.length ≤ l.flatten.length := fun x => by
    conv => rhs; rw [← List.take_append_drop x l, List.flatten_append, List.length_append]
    omega
  have e3 : ∀ x : Nat, ¬ (x : Int) < l.length → List.take x l = l := fun x h => List.take_of_length_le (by omega)
  have e4 : ∀ x : Nat, (x : Int) < l.length → (l.take x).flatten.length + (nthR l x).length ≤ l.flatten.length := fun x h => by
    have := e2 (x + 1); rw [e1 x h, List.length_append] at this; exact this
  have e5 : ∀ x : Nat, (x : Int) < l.length → ((List.flatten (List.take x l)).length : Int) + (nthR l x).length = (List.flatten (List.take (x + 1) l)).length := fun x h => by rw [e1 x h, List.length_append]; omega
  have e6 : ∀ x : Nat, (x : Int) < l.length → in64 (((List.flatten (List.take x l)).length : Int) + (nthR l x).length) := fun x h => i64w (by have := e4 x h; omega)
  repeat' first | with_reducible apply And.intro | with_reducible intro
  all_goals repeat with_reducible cases ‹_ ∧ _›
  all_goals first | assumption | rfl | exact trivial | exact nb ‹_› | exact nb' ‹_› | omega | exact ix_mod (by omega) | (unfold ix; omega) | (unfold in64; omega) | exact upto_zero _ | exact upto_succ ‹_› ‹_› | (refine upto_succ ‹_› ?_; simp_all; done) | exact e6 _ ‹_› | exact e5 _ ‹_› | exact (e1 _ ‹_›).symm | (rw [e1 _ ‹_›]; done) | (rw [e3 _ ‹_›]; first | done | omega) | exact Nat.le_trans (e4 _ ‹_›) (by omega) | (rw [e3 _ ‹_›] at *; omega) | grind)
def t181 : Tab := tabL [(181, c181)] t207
theorem t181o : t181.Ok Tryz.prog := tabL_ok t207o ⟨k181, trivial⟩
theorem cmpV_lt (a b : Geo.V) : Geo.cmpV a b < 0 ↔ Geo.lessV a b = true := by
  unfold Geo.cmpV Geo.lessV Geo.cmpI; grind
theorem lessV_irr (a : Geo.V) : Geo.lessV a a = false := by
  unfold Geo.lessV; grind
def c175 : Con := con (ac (aL .V) (a1 (aF 78))) (fun (r, _) => [0 < r.length, r.length ≤ 1000]) (fun (r, _) => aV.enc (nth r (Geo.leastIx r)))
theorem k175 : c175.Ok Tryz.prog 175 := con_ok (cx_ok t181o) (raw := noRaw) (fun (r, _) => [(5, .mk Nat (fun F _ => natAt F 6) [] (fun k => [0 < k, k ≤ r.length]) (fun k => [(6, .int .i64 (k : Int))]) (fun k => [(7, .box 44 [.int .i64 (nth r (Geo.leastUp r k)).x, .int .i64 (nth r (Geo.leastUp r k)).y])]) (fun k => r.length - k) (fun _ => []))]
  ) (fun (_, _) => ⟨_, rfl⟩) fun (r, u) hp => by_vc (q := ((r.length : Int) < 1 → False) ∧
 (¬ (r.length : Int) < 1 → ix 0 r.length ∧ (1 = (1 : Int) ∧ (nth r 0).x = (nth r (Geo.leastUp r 1)).x ∧ (nth r 0).y = (nth r (Geo.leastUp r 1)).y ∧ (0 : Nat) < 1 ∧ (1 : Nat) ≤ r.length) ∧
  (∀ x : Nat, (0 : Nat) < x ∧ x ≤ r.length → ((x : Int) < r.length → ix (x : Int) r.length ∧ (Geo.cmpV (nth r x) (nth r (Geo.leastUp r x)) < 0 → ix (x : Int) r.length ∧ in64 ((x : Int) + 1) ∧ (x : Int) + 1 = ((x + 1 : Nat) : Int) ∧ (nth r x).x = (nth r (Geo.leastUp r (x + 1))).x ∧ (nth r x).y = (nth r (Geo.leastUp r (x + 1))).y ∧ (0 : Nat) < x + 1 ∧ x + 1 ≤ r.length ∧ r.length - (x + 1) < r.length - x) ∧
    (¬ Geo.cmpV (nth r x) (nth r (Geo.leastUp r x)) < 0 → in64 ((x : Int) + 1) ∧ (x : Int) + 1 = ((x + 1 : Nat) : Int) ∧ (nth r (Geo.leastUp r x)).x = (nth r (Geo.leastUp r (x + 1))).x ∧ (nth r (Geo.leastUp r x)).y = (nth r (Geo.leastUp r (x + 1))).y ∧ (0 : Nat) < x + 1 ∧ x + 1 ≤ r.length ∧ r.length - (x + 1) < r.length - x)) ∧
   (¬ (x : Int) < r.length → (nth r (Geo.leastUp r x)).x = (nth r (Geo.leastIx r)).x ∧ (nth r (Geo.leastUp r x)).y = (nth r (Geo.leastIx r)).y)))) (by kernel_rfl) (by
  change 0 < r.length ∧ r.length ≤ 1000 at hp
  have e0 : Geo.leastUp r 1 = 0 := by unfold Geo.leastUp Geo.leastUp; split <;> rfl
  have e1 : ∀ x : Nat, Geo.cmpV (nth r x) (nth r (Geo.leastUp r x)) < 0 → Geo.leastUp r (x + 1) = x := fun x h => if_pos ((cmpV_lt _ _).1 h)
  have e2 : ∀ x : Nat, ¬ Geo.cmpV (nth r x) (nth r (Geo.leastUp r x)) < 0 → Geo.leastUp r (x + 1) = Geo.leastUp r x := fun x h => if_neg fun h2 => h ((cmpV_lt _ _).2 h2)
  have e3 : ∀ x : Nat, ¬ (x : Int) < r.length → x ≤ r.length → Geo.leastUp r x = Geo.leastIx r := fun x h1 h2 => by rw [show x = r.length by omega]; rfl
  repeat' first | with_reducible apply And.intro | with_reducible intro
  all_goals repeat with_reducible cases ‹_ ∧ _›
  all_goals first | assumption | rfl | exact trivial | exact nb ‹_› | exact nb' ‹_› | omega | exact ix_mod (by omega) | (unfold ix; omega) | (unfold in64; omega) | exact upto_zero _ | exact upto_succ ‹_› ‹_› | (refine upto_succ ‹_› ?_; simp_all; done) | (rw [e0]; done) | (rw [e1 _ ‹_›]; done) | (rw [e2 _ ‹_›]; done) | (rw [e3 _ ‹_› ‹_›]; done) | grind)
def t175 : Tab := tabL [(175, c175)] t181
theorem t175o : t175.Ok Tryz.prog := tabL_ok t181o ⟨k175, trivial⟩
def c174 : Con := con (ac (aL .V) (a1 aV)) (fun (r, _) => [r.length ≤ 1000]) (fun (r, v) => .int .i64 (fI (fun x => decide (v = x)) r))
theorem k174 : c174.Ok Tryz.prog 174 := con_ok (cx_ok t175o) (raw := noRaw) (fun (r, v) => [cnt 2 8 r.length (upto fun j => decide (v = nth r j) = false)]
  ) (fun (_, _) => ⟨_, rfl⟩) fun (r, v) hp => by_vc (q := (0 = (0 : Int) ∧ (0 : Nat) ≤ r.length ∧ upto (fun j => decide (v = nth r j) = false) 0) ∧
 (∀ x : Nat, x ≤ r.length ∧ upto (fun j => decide (v = nth r j) = false) x → ((x : Int) < r.length → ix (x : Int) r.length ∧ (v = (nth r x) → (x : Int) = fI (fun x => decide (v = x)) r) ∧
   (¬ v = (nth r x) → in64 ((x : Int) + 1) ∧ (x : Int) + 1 = ((x + 1 : Nat) : Int) ∧ x + 1 ≤ r.length ∧ upto (fun j => decide (v = nth r j) = false) (x + 1) ∧ r.length - (x + 1) < r.length - x)) ∧
  (¬ (x : Int) < r.length → -1 = fI (fun x => decide (v = x)) r))) (by kernel_rfl) (by
  change r.length ≤ 1000 at hp
  repeat' first | with_reducible apply And.intro | with_reducible intro
  all_goals repeat with_reducible cases ‹_ ∧ _›
  all_goals first | assumption | rfl | exact trivial | exact nb ‹_› | exact nb' ‹_› | omega | exact ix_mod (by omega) | (unfold ix; omega) | (unfold in64; omega) | exact upto_zero _ | exact upto_succ ‹_› ‹_› | (refine upto_succ ‹_› ?_; simp_all; done) | exact fI_at (t := .V) (by omega) (decide_eq_true ‹_›) ‹_› | (obtain rfl : _ = r.length := Nat.le_antisymm ‹_› (by omega); exact fI_end (t := .V) ‹_›) | grind)
def t174 : Tab := tabL [(174, c174)] t175
theorem t174o : t174.Ok Tryz.prog := tabL_ok t175o ⟨k174, trivial⟩
def c126 : Con := con (a1 (aL .V)) (fun r => [r.length ≤ 1000]) (fun r => .lst .V (Geo.canonR r)
  )
theorem k126 : c126.Ok Tryz.prog 126 := con_ok (cx_ok t174o) (raw := noRaw) (fun _ => []) (fun _ => ⟨_, rfl⟩) fun r hp => by_vc (q := r.length ≤ 1000 ∧ ((!Geo.validP r) = true → Geo.canonR r = ([] : List Geo.V)) ∧
 ((!Geo.validP r) = false → (0 : Nat) < r.length ∧ r.length ≤ 1000 ∧ r.length ≤ 1000 ∧ (0 ≤ fI (fun x => decide ((nth r (Geo.leastIx r)) = x)) r ∧ fI (fun x => decide ((nth r (Geo.leastIx r)) = x)) r ≤ r.length) ∧ (0 ≤ fI (fun x => decide ((nth r (Geo.leastIx r)) = x)) r ∧ fI (fun x => decide ((nth r (Geo.leastIx r)) = x)) r ≤ r.length) ∧ [List.drop (fI (fun x => decide ((nth r (Geo.leastIx r)) = x)) r).toNat r, List.take (fI (fun x => decide ((nth r (Geo.leastIx r)) = x)) r).toNat r].length ≤ 1000 ∧ (0 : Nat) < (List.flatten [List.drop (fI (fun x => decide ((nth r (Geo.leastIx r)) = x)) r).toNat r, List.take (fI (fun x => decide ((nth r (Geo.leastIx r)) = x)) r).toNat r]).length ∧ (List.flatten [List.drop (fI (fun x => decide ((nth r (Geo.leastIx r)) = x)) r).toNat r, List.take (fI (fun x => decide ((nth r (Geo.leastIx r)) = x)) r).toNat r]).length ≤ 1000 ∧ List.flatten [List.drop (fI (fun x => decide ((nth r (Geo.leastIx r)) = x)) r).toNat r, List.take (fI (fun x => decide ((nth r (Geo.leastIx r)) = x)) r).toNat r] = Geo.canonR r)) (by kernel_rfl) (by
  change r.length ≤ 1000 at hp
  have h0 : (!Geo.validP r) = false → 0 < r.length := fun h => by have := ((validPB_iff r).1 (nb h)).1; omega
  have hf : 0 < r.length → fI (fun x => decide (nth r (Geo.leastIx r) = x)) r = (Geo.leastIx r : Int) := fun h => by
    have hl := Geo.leastIx_lt h
    symm
    exact fI_at (t := .V) hl (decide_eq_true rfl) fun j hj => decide_eq_false fun e => by
      have := Geo.leastUp_first r r.length j hj
      rw [show Geo.leastUp r r.length = Geo.leastIx r from rfl, e] at this
      exact absurd ((lessV_irr (nth r j)).symm.trans this) (by decide)
  refine ⟨hp, fun h => by unfold Geo.canonR; rw [nb' h]; rfl, fun h => ?_⟩
  have h1 := h0 h
  have hl := Geo.leastIx_lt h1
  rw [hf h1]
  have hc : [List.drop ((Geo.leastIx r : Nat) : Int).toNat r, List.take ((Geo.leastIx r : Nat) : Int).toNat r].flatten = Geo.canonR r := by
    unfold Geo.canonR; rw [nb h]; simp [Geo.begin]
  repeat' first | with_reducible apply And.intro | with_reducible intro
  all_goals repeat with_reducible cases ‹_ ∧ _›
  all_goals first | assumption | rfl | exact trivial | exact nb ‹_› | exact nb' ‹_› | omega | exact ix_mod (by omega) | (unfold ix; omega) | (unfold in64; omega) | exact upto_zero _ | exact upto_succ ‹_› ‹_› | (refine upto_succ ‹_› ?_; simp_all; done) | exact hc | grind)
def t126 : Tab := tabL [(126, c126)] t174
theorem t126o : t126.Ok Tryz.prog := tabL_ok t174o ⟨k126, trivial⟩
end
end Go.Proofs.YtdaeofhdgabhjaaGreat
namespace Go.Proofs.YtdaeofhdgabhjaaGreat
open Go.RowKit
set_option maxRecDepth 100000
noncomputable section
def aPR : Ar Geo.Ring where
  enc r := .pro [.lst .V r] 0
  dec s := match s with
    | .pro [x] 0 => lstD .V x
    | _ => none
  ok s a h := by
    split at h
    · have e := lstD_av h
      show (match allP (avs [_]) with | some q => AV.p (.pro q 0) | none => .any) = _
      rw [avs, avs, e]; rfl
    · cases h
  pl _ := ⟨_, rfl⟩
def aPi : Ar Int where
  enc n := .pro [.int .i64 n] 0
  dec s := match s with
    | .pro [.int .i64 n] 0 => some n
    | _ => none
  ok s a h := by (split at h <;> cases h; rfl)
  pl _ := ⟨_, rfl⟩
def aCl (f : Nat) {α : Type} (A : Arl α) : Ar α where
  enc a := .fnp f [] (A.enc a)
  dec s := match s with
    | .fnp g [] b => (match Nat.beq g f with | true => A.dec b | false => none)
    | _ => none
  ok s a h := by
    split at h
    · split at h
      · rename_i b e
        have := A.ok _ _ h
        simp only [SV.av, this]; rw [Nat.eq_of_beq_eq_true e]
      · cases h
    · cases h
  pl a := by
    obtain ⟨q, h⟩ := A.pl a
    exact ⟨.fn (.func f) [] q, by simp only [SV.av, h, avs, allP_mapp]; rfl⟩
def aC180 : Ar (Geo.Ring × Int × Unit) := aCl 180 (ac aPR (ac aPi a0))
theorem all_no {t : LT} {l : List t.ty} {q : t.ty → Bool} {j : Nat} (hj : j < l.length) (h : q (t.nth l j) = false) : l.all q = false :=
  List.all_eq_false.2 ⟨_, List.getElem_mem hj, by rw [← t.nth_eq l hj, h]; simp⟩
theorem all_yes {t : LT} {l : List t.ty} {q : t.ty → Bool} (h : upto (fun j => q (t.nth l j) = true) l.length) : l.all q = true :=
  List.all_eq_true.2 fun x hx => by
    obtain ⟨j, hj, rfl⟩ := List.getElem_of_mem hx
    have := h j hj
    dsimp only at this
    rwa [t.nth_eq l hj] at this
def c180 : Con := con (ac aV (ac aPR (a1 aPi))) (fun (_, r, _) => [r.length ≤ 1000]) (fun (v, r, p) => .bool (decide (¬ Geo.whereVP r v = p))
  )
theorem k180 : c180.Ok Tryz.prog 180 := con_ok (cx_ok t126o) (raw := noRaw) (fun (_, _, _) => []) (fun (_, _, _) => ⟨_, rfl⟩) fun (v, r, p) hp => by_vc (q := r.length ≤ 1000 ∧ decide (¬ Geo.whereVP r v = p) = decide (¬ Geo.whereVP r v = p)) (by kernel_rfl) (by
  change r.length ≤ 1000 at hp
  repeat' first | with_reducible apply And.intro | with_reducible intro
  all_goals repeat with_reducible cases ‹_ ∧ _›
  all_goals first | assumption | rfl | exact trivial | exact nb ‹_› | exact nb' ‹_› | omega | exact ix_mod (by omega) | (unfold ix; omega) | (unfold in64; omega) | exact upto_zero _ | exact upto_succ ‹_› ‹_› | (refine upto_succ ‹_› ?_; simp_all; done) | grind)
def t180 : Tab := tabL [(180, c180)] t126
theorem t180o : t180.Ok Tryz.prog := tabL_ok t126o ⟨k180, trivial⟩
def c157 : Con := con (ac (aL .V) (a1 aC180)) (fun (l, c) => [l.length ≤ 1000000, c.1.length ≤ 1000]) (fun (l, c) => .int .i64 (fI (fun v => decide (¬ Geo.whereVP c.1 v = c.2.1)) l))
theorem k157 : c157.Ok Tryz.prog 157 := con_ok (cx_ok t180o) (raw := noRaw) (fun (l, c) => [cnt 2 8 l.length (upto fun j => decide (¬ Geo.whereVP c.1 (Geo.nth l j) = c.2.1) = false)]
  ) (fun (_, _) => ⟨_, rfl⟩) fun (l, c) hp => by_vc (q := (0 = (0 : Int) ∧ (0 : Nat) ≤ l.length ∧ upto (fun j => decide (¬ Geo.whereVP c.1 (Geo.nth l j) = c.2.1) = false) 0) ∧
 (∀ x : Nat, x ≤ l.length ∧ upto (fun j => decide (¬ Geo.whereVP c.1 (Geo.nth l j) = c.2.1) = false) x → ((x : Int) < l.length → ix (x : Int) l.length ∧ c.1.length ≤ 1000 ∧ (decide (¬ Geo.whereVP c.1 (Geo.nth l x) = c.2.1) = true → (x : Int) = fI (fun v => decide (¬ Geo.whereVP c.1 v = c.2.1)) l) ∧
   (decide (¬ Geo.whereVP c.1 (Geo.nth l x) = c.2.1) = false → in64 ((x : Int) + 1) ∧ (x : Int) + 1 = ((x + 1 : Nat) : Int) ∧ x + 1 ≤ l.length ∧ upto (fun j => decide (¬ Geo.whereVP c.1 (Geo.nth l j) = c.2.1) = false) (x + 1) ∧ l.length - (x + 1) < l.length - x)) ∧
  (¬ (x : Int) < l.length → -1 = fI (fun v => decide (¬ Geo.whereVP c.1 v = c.2.1)) l))) (by kernel_rfl) (by
  change l.length ≤ 1000000 ∧ c.1.length ≤ 1000 at hp
  repeat' first | with_reducible apply And.intro | with_reducible intro
  all_goals repeat with_reducible cases ‹_ ∧ _›
  all_goals first | assumption | rfl | exact trivial | exact nb ‹_› | exact nb' ‹_› | omega | exact ix_mod (by omega) | (unfold ix; omega) | (unfold in64; omega) | exact upto_zero _ | exact upto_succ ‹_› ‹_› | (refine upto_succ ‹_› ?_; simp_all; done) | exact fI_at (t := .V) (by omega) ‹_› ‹_› | (obtain rfl : _ = l.length := Nat.le_antisymm ‹_› (by omega); exact fI_end (t := .V) ‹_›) | grind)
def t157 : Tab := tabL [(157, c157)] t180
theorem t157o : t157.Ok Tryz.prog := tabL_ok t180o ⟨k157, trivial⟩
def c84 : Con := con (ac (aL .V) (a1 aC180)) (fun (l, c) => [l.length ≤ 1000000, c.1.length ≤ 1000]) (fun (l, c) => .bool (l.any fun v => decide (¬ Geo.whereVP c.1 v = c.2.1))
  )
theorem k84 : c84.Ok Tryz.prog 84 := con_ok (cx_ok t157o) (raw := noRaw) (fun (_, _) => []) (fun (_, _) => ⟨_, rfl⟩) fun (l, c) hp => by_vc (q := l.length ≤ 1000000 ∧ c.fst.length ≤ 1000 ∧ decide (0 ≤ fI (fun v => decide (¬ Geo.whereVP c.fst v = c.2.1)) l) = List.any l (fun v => decide (¬ Geo.whereVP c.1 v = c.2.1))) (by kernel_rfl) (by
  change l.length ≤ 1000000 ∧ c.1.length ≤ 1000 at hp
  exact ⟨hp.1, hp.2, fI_any _ _⟩)
def t84 : Tab := tabL [(84, c84)] t157
theorem t84o : t84.Ok Tryz.prog := tabL_ok t157o ⟨k84, trivial⟩
def c123 : Con := con (ac (aL .V) (ac (aL .V) (a1 aI))) (fun (r, q, _) => [r.length ≤ 1000, q.length ≤ 1000]) (fun (r, q, p) => .bool (Geo.allP r q p)
  )
theorem k123 : c123.Ok Tryz.prog 123 := con_ok (cx_ok t84o) (raw := noRaw) (fun (_, _, _) => []) (fun (_, _, _) => ⟨_, rfl⟩) fun (r, q, p) hp => by_vc (q := r.length ≤ 1000000 ∧ q.length ≤ 1000 ∧ (!List.any r (fun v => decide (¬ Geo.whereVP q v = p))) = Geo.allP r q p) (by kernel_rfl) (by
  change r.length ≤ 1000 ∧ q.length ≤ 1000 at hp
  refine ⟨by omega, hp.2, ?_⟩
  unfold Geo.allP; rw [List.any_eq_not_all_not, Bool.not_not]; congr 1; funext v; rw [Bool.eq_iff_iff]; simp)
def t123 : Tab := tabL [(123, c123)] t84
theorem t123o : t123.Ok Tryz.prog := tabL_ok t84o ⟨k123, trivial⟩
def c124 : Con := con (ac (aL .V) (a1 (aL .V))) (fun (a, b) => [a.length ≤ 1000, b.length ≤ 1000]) (fun (a, b) => .bool (Geo.apartP a b))
theorem k124 : c124.Ok Tryz.prog 124 := con_ok (cx_ok t123o) (raw := noRaw) (fun (a, b) => [cnt 2 12 (Geo.edges a).length (upto fun i => ((Geo.edges b).all fun y => Geo.meetP (nthS (Geo.edges a) i) y == 0) = true) fun i => [cnt 5 19 (Geo.edges b).length (upto fun k => (Geo.meetP (nthS (Geo.edges a) i) (nthS (Geo.edges b) k) == 0) = true)]]
  ) (fun (_, _) => ⟨_, rfl⟩) fun (a, b) hp => by_vc (q := a.length ≤ 1000 ∧ (0 = (0 : Int) ∧ (0 : Nat) ≤ (Geo.edges a).length ∧ upto (fun i => List.all (Geo.edges b) (fun y => Geo.meetP (nthS (Geo.edges a) i) y == 0) = true) 0) ∧
 (∀ x : Nat, x ≤ (Geo.edges a).length ∧ upto (fun i => List.all (Geo.edges b) (fun y => Geo.meetP (nthS (Geo.edges a) i) y == 0) = true) x → ((x : Int) < (Geo.edges a).length → ix (x : Int) (Geo.edges a).length ∧ x < (Geo.edges a).length ∧ b.length ≤ 1000 ∧ (0 = (0 : Int) ∧ (0 : Nat) ≤ (Geo.edges b).length ∧ upto (fun k => (Geo.meetP (nthS (Geo.edges a) x) (nthS (Geo.edges b) k) == 0) = true) 0) ∧
   (∀ x_1 : Nat, x_1 ≤ (Geo.edges b).length ∧ upto (fun k => (Geo.meetP (nthS (Geo.edges a) x) (nthS (Geo.edges b) k) == 0) = true) x_1 → ((x_1 : Int) < (Geo.edges b).length → ix (x_1 : Int) (Geo.edges b).length ∧ x_1 < (Geo.edges b).length ∧ (¬ Geo.meetP (nthS (Geo.edges a) x) (nthS (Geo.edges b) x_1) = 0 → false = Geo.apartP a b) ∧
     (¬ (¬ Geo.meetP (nthS (Geo.edges a) x) (nthS (Geo.edges b) x_1) = 0) → in64 ((x_1 : Int) + 1) ∧ (x_1 : Int) + 1 = ((x_1 + 1 : Nat) : Int) ∧ x_1 + 1 ≤ (Geo.edges b).length ∧ upto (fun k => (Geo.meetP (nthS (Geo.edges a) x) (nthS (Geo.edges b) k) == 0) = true) (x_1 + 1) ∧ (Geo.edges b).length - (x_1 + 1) < (Geo.edges b).length - x_1)) ∧
    (¬ (x_1 : Int) < (Geo.edges b).length → in64 ((x : Int) + 1) ∧ (x : Int) + 1 = ((x + 1 : Nat) : Int) ∧ x + 1 ≤ (Geo.edges a).length ∧ upto (fun i => List.all (Geo.edges b) (fun y => Geo.meetP (nthS (Geo.edges a) i) y == 0) = true) (x + 1) ∧ (Geo.edges a).length - (x + 1) < (Geo.edges a).length - x))) ∧
  (¬ (x : Int) < (Geo.edges a).length → true = Geo.apartP a b))) (by kernel_rfl) (by
  change a.length ≤ 1000 ∧ b.length ≤ 1000 at hp
  have el : ∀ r : Geo.Ring, r.length ≤ 1000 → (Geo.edges r).length ≤ 1000 := fun r h => by unfold Geo.edges; split <;> simp <;> omega
  have ea := el a hp.1
  have eb := el b hp.2
  have h1 : ∀ x y : Nat, (x : Int) < (Geo.edges a).length → (y : Int) < (Geo.edges b).length → ¬ Geo.meetP (nthS (Geo.edges a) x) (nthS (Geo.edges b) y) = 0 → false = Geo.apartP a b := fun x y hx hy h =>
    (all_no (t := .S) (l := Geo.edges a) (j := x) (by omega) (all_no (t := .S) (l := Geo.edges b) (q := fun y => Geo.meetP (nthS (Geo.edges a) x) y == 0) (j := y) (by omega) (beq_eq_false_iff_ne.2 h))).symm
  have h2 : ∀ x : Nat, ¬ (x : Int) < (Geo.edges a).length → x ≤ (Geo.edges a).length → upto (fun i => ((Geo.edges b).all fun y => Geo.meetP (nthS (Geo.edges a) i) y == 0) = true) x → true = Geo.apartP a b := fun x hx hx2 h => by
    obtain rfl : x = (Geo.edges a).length := by omega
    exact (all_yes (t := .S) h).symm
  have h3 : ∀ x y : Nat, ¬ (y : Int) < (Geo.edges b).length → y ≤ (Geo.edges b).length → upto (fun k => (Geo.meetP (nthS (Geo.edges a) x) (nthS (Geo.edges b) k) == 0) = true) y → ((Geo.edges b).all fun z => Geo.meetP (nthS (Geo.edges a) x) z == 0) = true := fun x y hy hy2 h => by
    obtain rfl : y = (Geo.edges b).length := by omega
    exact all_yes (t := .S) h
  repeat' first | with_reducible apply And.intro | with_reducible intro
  all_goals repeat with_reducible cases ‹_ ∧ _›
  all_goals first | assumption | rfl | exact trivial | exact nb ‹_› | exact nb' ‹_› | omega | exact ix_mod (by omega) | (unfold ix; omega) | (unfold in64; omega) | exact upto_zero _ | exact upto_succ ‹_› ‹_› | (refine upto_succ ‹_› ?_; simp_all; done) | exact h1 _ _ ‹_› ‹_› ‹_› | exact h2 _ ‹_› ‹_› ‹_› | exact upto_succ ‹_› (h3 _ _ ‹_› ‹_› ‹_›) | exact upto_succ ‹_› (beq_iff_eq.2 (Decidable.of_not_not ‹¬ ¬ _›)) | grind)
def t124 : Tab := tabL [(124, c124)] t123
theorem t124o : t124.Ok Tryz.prog := tabL_ok t123o ⟨k124, trivial⟩
end
end Go.Proofs.YtdaeofhdgabhjaaGreat
namespace Go.Proofs.YtdaeofhdgabhjaaGreat
open Go.RowKit
theorem rows_in {r n : Nat} {P : Program} {row : String} {args : Array Value} {w : World} {R : Value → World → Prop} (h : Rows P row args w R) : RowsIn (Fence.wide.inRound r) n P row args w R :=
  fun c cs _ => let ⟨v, w', hr, s⟩ := h c cs; ⟨v, w', hr, stepsIn_wide.2 s⟩
theorem wpOps_in {r n : Nat} {P : Program} {ops : Array Oper} {Q : Exit → Act → World → Prop} (hd : ∀ (i : Nat) (o : Oper), ops[i]? = some o → ∀ c, o.op ≠ .defer c) (hno : ¬ LetsOut Q) :
    ∀ (l : List Nat) (a : Act) (w : World), wpOps P ops Q l a w → wpOpsIn (Fence.wide.inRound r) n P ops Q l a w
  | [], _, _, h => h
  | i :: rest, a, w, h => by
    unfold wpOps at h
    unfold wpOpsIn
    cases ho : ops[i]? with
    | none => rw [ho] at h; exact wpOps_in hd hno rest a w h
    | some o =>
      rw [ho] at h
      simp only [] at h ⊢
      by_cases hw : Region.wanted o (yielded ops a.tmps) = true
      · rw [if_pos hw] at h ⊢
        rcases h with h | ⟨_, h⟩
        · refine ⟨fun _ _ => trivial, ?_⟩
          show o.uponIn _ n P a _ Q ((Oper.semAt (some r) a.eval o).run P w)
          rw [Oper.semAt_some r a.eval o (hd i o ho)]
          unfold Oper.wp at h
          generalize (execOp a.eval o).run P w = res at h ⊢
          cases res with
          | ok x w' =>
            cases x with
            | value v => exact wpOps_in hd hno rest _ _ h
            | skip => exact wpOps_in hd hno rest _ _ h
            | defer d => exact wpOps_in hd hno rest _ _ h
            | enter f args =>
              refine ⟨fun h => by simp [Fence.wide] at h, CallsIn.inRound r (callsIn_wide.2 (Calls.mono h ?_))⟩
              intro e w'' he
              cases e with
              | returned v => exact wpOps_in hd hno rest _ _ he
              | panicked c => exact he
              | outgrown => exact he
            | row row args =>
              refine ⟨fun h => by simp [Fence.wide] at h, rows_in (Rows.mono h ?_)⟩
              intro v w'' he
              exact wpOps_in hd hno rest _ _ he
            | _ => exact h.elim
          | halt x w' => cases x <;> first | exact h | exact h.elim
        · exact absurd h hno
      · rw [if_neg hw] at h ⊢
        exact ⟨fun _ _ => trivial, wpOps_in hd hno rest _ _ h⟩
def onlyN (Q : Exit → Act → World → Prop) : Exit → Act → World → Prop := fun e a w => e = .normal ∧ Q .normal a w
theorem onlyN_no (Q : Exit → Act → World → Prop) : ¬ LetsOut (onlyN Q) := fun h => by
  obtain ⟨a, w, e, _⟩ := h
  cases e
theorem onlyN_wp {F : Fence} {n : Nat} {P : Program} {c : Code} {Q : Exit → Act → World → Prop} {a : Act} {w : World} (h : c.wpIn F n P (onlyN Q) a w) : c.wpIn F n P Q a w :=
  wpIn_mono h fun e a w he => by obtain ⟨rfl, he⟩ := he; exact he
theorem wp_region_invA {P : Program} {ops : Array Oper} {Q : Exit → Act → World → Prop} {a0 : Act} {w0 : World}
    (hac : ∀ (i : Nat) (o : Oper), ops[i]? = some o → ∀ e ∈ o.after.toList, Region.binds .any e = true → e.on < i)
    (Inv : (Nat → Bool) → Act → World → Prop) (h0 : Inv (fun _ => false) a0 w0.drew)
    (hstep : ∀ (i : Nat) (o : Oper) (D : Nat → Bool) (a : Act) (w : World), ops[i]? = some o → Inv D a w → D i = false → (∀ e ∈ o.after.toList, Region.binds .any e = true → D e.on = true) →
      wpOp P ops Q i (fun a' w' => Inv (fun j => if j = i then true else D j) a' w') a w)
    (hend : ∀ (D : Nat → Bool) (a : Act) (w : World), Inv D a w → (∀ i, i < ops.size → D i = true) → Q .normal a w) :
    wpAny P .any ops Q ops.size (Array.replicate ops.size false) a0 w0.drew := by
  refine (wpAny_inv hac Inv hstep hend _ _ _ _ (by simp) ?_ ?_)
  · simp
  · have e : (fun j => (Array.replicate ops.size false).getD j false) = (fun _ => false) := by
      funext j
      rw [Array.getD_eq_getD_getElem?, Array.getElem?_replicate]
      split <;> rfl
    rw [e]; exact h0
theorem wp_region_GA {P : Program} {ops : Array Oper} {Q : Exit → Act → World → Prop} {a0 : Act} {w0 : World}
    (dsts : List Nat)
    (hok : ((List.range ops.size).all fun i => ((ops[i]?).map fun o => (o.after.toList.all fun e => !Region.binds .any e || decide (e.on < i)) && (match o.dst with | some d => dsts.contains d | none => true)).getD true) = true)
    (hds : ∀ s ∈ dsts, s < a0.tmps.size)
    (F : (Nat → Bool) → (Nat → Value) → World → Prop) (h0 : F (fun _ => false) (fun s => a0.tmps.getD s undef) w0.drew)
    (hstep : ∀ (i : Nat) (o : Oper) (D : Nat → Bool) (V : Nat → Value) (w : World), ops[i]? = some o → F D V w → D i = false → (∀ e ∈ o.after.toList, Region.binds .any e = true → D e.on = true) →
      (∀ s, s ∉ dsts → V s = a0.tmps.getD s undef) →
      if Region.wanted o (gdV ops V) = true then
        opRun P o V w (fun v w' => F (fun j => if j = i then true else D j) (match o.dst with | some d => fun s => if s = d then v else V s | none => V) w')
      else F (fun j => if j = i then true else D j) (match o.dst with | some d => fun s => if s = d then undef else V s | none => V) w)
    (hend : ∀ (D : Nat → Bool) (V : Nat → Value) (w : World), F D V w → (∀ i, i < ops.size → D i = true) → Q .normal (putAll a0 dsts V) w) :
    wpAny P .any ops Q ops.size (Array.replicate ops.size false) a0 w0.drew := by
  have hops : ∀ (i : Nat) (o : Oper), ops[i]? = some o → (∀ e ∈ o.after.toList, Region.binds .any e = true → e.on < i) ∧ (∀ d, o.dst = some d → d ∈ dsts) := by
    intro i o ho
    have hi : i < ops.size := (Array.getElem?_eq_some_iff.1 ho).1
    rw [List.all_eq_true] at hok
    have := hok i (List.mem_range.2 hi)
    rw [ho] at this
    simp only [Option.map_some, Option.getD_some, Bool.and_eq_true] at this
    obtain ⟨g2, g3⟩ := this
    refine ⟨?_, ?_⟩
    · intro e he hb
      rw [List.all_eq_true] at g2
      have := g2 e he
      rw [hb] at this
      simpa using this
    · intro d hd
      rw [hd] at g3
      simpa using g3
  refine wp_region_invA (fun i o ho => (hops i o ho).1) (fun D a w => a.defers = a0.defers ∧ a.tmps.size = a0.tmps.size ∧ (∀ s, s ∉ dsts → a.tmps.getD s undef = a0.tmps.getD s undef) ∧ F D (fun s => a.tmps.getD s undef) w) ⟨rfl, rfl, fun _ _ => rfl, h0⟩ ?_ ?_
  · intro i o D a w ho ⟨i1, i2, i3, i4⟩ hD hpre
    obtain ⟨_, hdst⟩ := hops i o ho
    have hrun := hstep i o D (fun s => a.tmps.getD s undef) w ho i4 hD hpre i3
    have hput : ∀ (v : Value) (w' : World), F (fun j => if j = i then true else D j) (match o.dst with | some d => fun s => if s = d then v else a.tmps.getD s undef | none => fun s => a.tmps.getD s undef) w' →
        (a.put o.dst v).defers = a0.defers ∧ (a.put o.dst v).tmps.size = a0.tmps.size ∧ (∀ s, s ∉ dsts → (a.put o.dst v).tmps.getD s undef = a0.tmps.getD s undef) ∧ F (fun j => if j = i then true else D j) (fun s => (a.put o.dst v).tmps.getD s undef) w' := by
      intro v w' hF
      cases hd : o.dst with
      | none => rw [hd] at hF; exact ⟨i1, i2, i3, hF⟩
      | some d =>
        rw [hd] at hF
        have hdm := hdst d hd
        have hlt : d < a.tmps.size := by rw [i2]; exact hds d hdm
        have hget : ∀ s, (a.put (some d) v).tmps.getD s undef = if s = d then v else a.tmps.getD s undef := by
          intro s
          simp only [Act.put, Array.getD_eq_getD_getElem?, Array.getElem?_setIfInBounds]
          by_cases e : d = s
          · subst e; rw [if_pos rfl, if_pos hlt, if_pos rfl]; rfl
          · rw [if_neg e, if_neg (fun e' => e e'.symm)]
        refine ⟨i1, by simpa [Act.put] using i2, ?_, ?_⟩
        · intro s hs
          rw [hget, if_neg (fun e => hs (by rw [e]; exact hdm))]
          exact i3 s hs
        · have e : (fun s => (a.put (some d) v).tmps.getD s undef) = (fun s => if s = d then v else a.tmps.getD s undef) := funext hget
          rw [e]; exact hF
    unfold wpOp
    rw [ho]
    simp only []
    rw [yielded_gdV]
    by_cases hw : Region.wanted o (gdV ops fun s => a.tmps.getD s undef) = true
    · rw [if_pos hw] at hrun ⊢
      refine .inl ?_
      unfold Oper.wp
      rw [Act.eval_evalV]
      unfold opRun at hrun
      cases hr : (execOp (evalV fun s => a.tmps.getD s undef) o).run P w with
      | halt x w' => rw [hr] at hrun; exact hrun.elim
      | ok n w' =>
        rw [hr] at hrun
        cases n <;> simp only [] at hrun <;> first | exact hrun.elim | skip
        · exact hput _ _ hrun
        · exact hput _ _ hrun
        · rename_i f args
          show Calls P f args w' _
          refine hrun.mono ?_
          rintro e w'' ⟨v, rfl, hK⟩
          exact hput _ _ hK
    · rw [if_neg hw] at hrun ⊢
      exact hput _ _ hrun
  · intro D a w ⟨i1, i2, i3, i4⟩ hall
    have := hend D _ w i4 hall
    obtain ⟨p1, p2, p3⟩ := putAll_facts (fun s => a.tmps.getD s undef) dsts a0 hds
    have e : putAll a0 dsts (fun s => a.tmps.getD s undef) = a := by
      obtain ⟨t, df⟩ := a
      have ht : (putAll a0 dsts (fun s => t.getD s undef)).tmps = t := by
        apply Array.ext
        · rw [p2]; exact i2.symm
        · intro s h1 h2
          have h3 := p3 s (by rw [← i2]; exact h2)
          rw [Array.getD_eq_getD_getElem?, Array.getElem?_eq_getElem h1, Option.getD_some] at h3
          rw [h3]
          by_cases hm : s ∈ dsts
          · rw [if_pos hm]; simp [Array.getD_eq_getD_getElem?, h2]
          · rw [if_neg hm, ← i3 s hm]; simp [Array.getD_eq_getD_getElem?, h2]
      have hdf : (putAll a0 dsts (fun s => t.getD s undef)).defers = df := p1.trans i1.symm
      show putAll a0 dsts (fun s => t.getD s undef) = { tmps := t, defers := df }
      cases hp : putAll a0 dsts (fun s => t.getD s undef) with
      | mk t' df' =>
        rw [hp] at ht hdf
        have e1 : t' = t := ht
        have e2 : df' = df := hdf
        rw [e1, e2]
    rw [e] at this
    exact this
theorem wp_region_FA {P : Program} {l : List Oper} {Q : Exit → Act → World → Prop} {a0 : Act} {w0 : World}
    (dsts : List Nat) (anc : List (List Nat)) (hok : okF l anc = true) (hdst : ((List.range l.length).all fun i => dstOf l i == 1000000 || dsts.contains (dstOf l i)) = true) (hds : ∀ s ∈ dsts, s < a0.tmps.size)
    (WR : (Nat → Bool) → World → Prop) (fact : Nat → Value → World → Prop) (h0 : WR (fun _ => false) w0.drew)
    (hmono : ∀ j v w w', fact j v w → Below w.heap.size w w' → fact j v w')
    (hstep : allSteps (stepF P l anc a0 WR fact) l 0)
    (hend : ∀ (D : Nat → Bool) (V : Nat → Value) (w : World), (∀ i, i < l.length → D i = true) → (∀ i, i < l.length → fact i (valOf l V i) w) → WR D w → Q .normal (putAll a0 dsts V) w) :
    wpAny P .any l.toArray Q l.toArray.size (Array.replicate l.toArray.size false) a0 w0.drew := by
  unfold okF at hok
  rw [List.all_eq_true] at hok
  have hget : ∀ i o, l[i]? = some o → i < l.length := fun i o h => (List.getElem?_eq_some_iff.1 h).1
  have hop : ∀ i o, l[i]? = some o → (∀ e ∈ o.after.toList, Region.binds .any e = true → e.on < i ∧ (ancOf anc i).contains e.on = true) ∧ o.guard = none ∧
      (∀ j, (ancOf anc i).contains j = true → j < i ∧ ∃ e ∈ o.after.toList, Region.binds .any e = true ∧ (e.on = j ∨ (ancOf anc e.on).contains j = true)) ∧ (∀ d, o.dst = some d → dstOf l i = d ∧ d ≠ 1000000) ∧ (o.dst = none → dstOf l i = 1000000) := by
    intro i o ho
    have h1 := hok i (List.mem_range.2 (hget i o ho))
    simp only [Bool.and_eq_true] at h1
    obtain ⟨⟨h2, h3⟩, _⟩ := h1
    rw [ho] at h2
    simp only [Option.map_some, Option.getD_some, Bool.and_eq_true, Option.isNone_iff_eq_none, bne_iff_ne, ne_eq] at h2
    refine ⟨?_, h2.1.2, ?_, ?_, ?_⟩
    · intro e he hb
      have := List.all_eq_true.1 h2.1.1 e he
      rw [hb] at this
      simpa using this
    · intro j hj
      rw [List.all_eq_true] at h3
      have := h3 j (by simpa using hj)
      simp only [Bool.and_eq_true, decide_eq_true_eq] at this
      obtain ⟨h4, h5⟩ := this
      refine ⟨h4, ?_⟩
      rw [ho] at h5
      simp only [Option.map_some, Option.getD_some, List.any_eq_true, Bool.and_eq_true, Bool.or_eq_true, beq_iff_eq] at h5
      exact h5
    · intro d hd; refine ⟨by unfold dstOf; rw [ho]; simp [hd], ?_⟩
      rintro rfl; exact h2.2 hd
    · intro hd; unfold dstOf; rw [ho]; simp [hd]
  have huniq : ∀ i j, i < l.length → j < l.length → j ≠ i → dstOf l j = dstOf l i → dstOf l i = 1000000 := by
    intro i j hi hj hne he
    have h1 := hok i (List.mem_range.2 hi)
    simp only [Bool.and_eq_true] at h1
    obtain ⟨_, h3⟩ := h1
    rw [List.all_eq_true] at h3
    have := h3 j (List.mem_range.2 hj)
    simp only [Bool.or_eq_true, beq_iff_eq, bne_iff_ne, ne_eq] at this
    rcases this with (h | h) | h
    · exact absurd h hne
    · exact absurd he h
    · exact h
  let G : (Nat → Bool) → (Nat → Value) → World → Prop := fun D V w =>
    (∀ i j, D i = true → (ancOf anc i).contains j = true → D j = true) ∧ (∀ i, i < l.length → D i = true → fact i (valOf l V i) w) ∧
    (∀ s, (∀ j, j < l.length → dstOf l j = s → D j = false) → V s = a0.tmps.getD s undef) ∧ WR D w
  refine wp_region_GA dsts ?_ hds G ?_ ?_ ?_
  · rw [List.all_eq_true]
    intro i hi
    have hi' := List.mem_range.1 hi
    simp only [List.size_toArray] at hi'
    have ho : l[i]? = some l[i] := List.getElem?_eq_getElem hi'
    obtain ⟨q1, q2, q3, q4, q5⟩ := hop i _ ho
    simp only [List.getElem?_toArray, ho, Option.map_some, Option.getD_some, Bool.and_eq_true]
    refine ⟨?_, ?_⟩
    · rw [List.all_eq_true]
      intro e he
      cases hb : Region.binds .any e with
      | false => simp
      | true => simpa using (q1 e he hb).1
    · cases hd : l[i].dst with
      | none => rfl
      | some d =>
        have e1 := (q4 d hd).1
        rw [List.all_eq_true] at hdst
        have := hdst i (List.mem_range.2 hi')
        rw [e1] at this
        simp only [Bool.or_eq_true, beq_iff_eq] at this
        rcases this with h | h
        · exact absurd h (q4 d hd).2
        · simpa using h
  · exact ⟨(fun i j h => by cases h), (fun i _ h => by cases h), (fun s _ => rfl), h0⟩
  · intro i o D V w ho ⟨g1, g2, g3, g4⟩ hD hpre hV
    have ho' : l[i]? = some o := by simpa using ho
    obtain ⟨q1, q2, q3, q4, q5⟩ := hop i o ho'
    have hi := hget i o ho'
    have hanc : ∀ j, (ancOf anc i).contains j = true → D j = true := by
      intro j hj
      obtain ⟨_, e, he, hb, h⟩ := q3 j hj
      have := hpre e he hb
      rcases h with rfl | h
      · exact this
      · exact g1 _ _ this h
    have hdesc : ∀ j, (ancOf anc j).contains i = true → D j = false := by
      intro j hj
      cases hx : D j with
      | false => rfl
      | true => rw [g1 _ _ hx hj] at hD; cases hD
    have hs := allSteps_get l 0 hstep i o ho'
    rw [Nat.zero_add] at hs
    have hrun := hs D V w hD (fun j hj => ⟨hanc j hj, g2 j (Nat.lt_trans (q3 j hj).1 hi) (hanc j hj)⟩) hdesc (fun s hsl => g3 s (fun j hj hjs => by
      unfold inSlot at hsl
      rw [List.all_eq_true] at hsl
      have := hsl j (List.mem_range.2 hj)
      simp only [Bool.or_eq_true, bne_iff_ne, ne_eq, beq_iff_eq] at this
      rcases this with (h | h) | h
      · exact absurd hjs h
      · exact hdesc j h
      · rw [h]; exact hD)) g4
    rw [if_pos (by unfold Region.wanted; rw [q2])]
    have hmono' : ∀ (K K' : Value → World → Prop), (∀ v w, K v w → K' v w) → opRun P o V w K → opRun P o V w K' := by
      intro K K' hk h
      unfold opRun at h ⊢
      split at h
      · exact hk _ _ h
      · exact hk _ _ h
      · exact h.mono fun e w'' ⟨v, he, hv⟩ => ⟨v, he, hk _ _ hv⟩
      · exact h.elim
    have key : ∀ (U : Nat → Value) (v : Value) (w' : World), (∀ s, s ≠ dstOf l i → U s = V s) → (dstOf l i ≠ 1000000 → U (dstOf l i) = v) →
        (fact i (if dstOf l i = 1000000 then undef else v) w' ∧ WR (dSet D i) w' ∧ (w' = w ∨ Below w.heap.size w w' ∨ ∀ j, D j = true → fact j (valOf l V j) w → fact j (valOf l V j) w')) → G (dSet D i) U w' := by
      rintro U v w' hVd hVv ⟨k1, k2, k3⟩
      refine ⟨?_, ?_, ?_, k2⟩
      · intro i' j h1 h2
        by_cases e : j = i
        · simp [dSet, e]
        · by_cases e' : i' = i
          · subst e'; simp only [dSet, e, if_false]; exact hanc j h2
          · simp only [dSet, e', if_false] at h1; simp only [dSet, e, if_false]; exact g1 _ _ h1 h2
      · intro i' hi' h1
        by_cases e : i' = i
        · subst e
          have : valOf l U i' = if dstOf l i' = 1000000 then undef else v := by
            unfold valOf
            by_cases h6 : dstOf l i' = 1000000
            · rw [if_pos h6, if_pos h6]
            · rw [if_neg h6, if_neg h6, hVv h6]
          rw [this]; exact k1
        · simp only [dSet, e, if_false] at h1
          have : valOf l U i' = valOf l V i' := by
            unfold valOf
            by_cases h6 : dstOf l i' = 1000000
            · rw [if_pos h6, if_pos h6]
            · rw [if_neg h6, if_neg h6, hVd]
              intro h7
              exact h6 (by rw [h7]; exact huniq i i' hi hi' e h7)
          rw [this]
          have h8 := g2 i' hi' h1
          rcases k3 with rfl | k3 | k3
          · exact h8
          · exact hmono _ _ _ _ h8 k3
          · exact k3 i' h1 h8
      · intro s hs
        have hne : s ≠ dstOf l i := by
          intro h
          have := hs i hi h.symm
          simp [dSet] at this
        rw [hVd s hne]
        refine g3 s (fun j hj hjs => ?_)
        have := hs j hj hjs
        by_cases e : j = i
        · subst e; exact hD
        · simpa [dSet, e] using this
    refine hmono' _ _ ?_ hrun
    intro v w' hk
    show G (dSet D i) _ w'
    cases hd : o.dst with
    | none =>
      have e1 := q5 hd
      refine key _ v w' ?_ (fun h => absurd e1 h) hk
      intro s _; rfl
    | some d =>
      have e1 := (q4 d hd).1
      refine key _ v w' ?_ ?_ hk
      · intro s hs; rw [e1] at hs; simp only []; rw [if_neg hs]
      · intro _; rw [e1]; simp
  · intro D V w ⟨g1, g2, g3, g4⟩ hall
    simp only [List.size_toArray] at hall
    exact hend D V w hall (fun i hi => g2 i hi (hall i hi)) g4
theorem wpIn_region_F {r n : Nat} {P : Program} {id : Nat} {l : List Oper} {Q : Exit → Act → World → Prop} {a0 : Act} {w0 : World} (hm : P.follows .mixedOrders = true)
    (hdf : (l.all fun o => match o.op with | .defer _ => false | _ => true) = true)
    (dsts : List Nat) (anc : List (List Nat)) (hok : okF l anc = true) (hdst : ((List.range l.length).all fun i => dstOf l i == 1000000 || dsts.contains (dstOf l i)) = true) (hds : ∀ s ∈ dsts, s < a0.tmps.size)
    (WR : (Nat → Bool) → World → Prop) (fact : Nat → Value → World → Prop) (h0 : WR (fun _ => false) w0.drew)
    (hmono : ∀ j v w w', fact j v w → Below w.heap.size w w' → fact j v w')
    (hstep : allSteps (stepF P l anc a0 WR fact) l 0)
    (hend : ∀ (D : Nat → Bool) (V : Nat → Value) (w : World), (∀ i, i < l.length → D i = true) → (∀ i, i < l.length → fact i (valOf l V i) w) → WR D w → Q .normal (putAll a0 dsts V) w) :
    (Code.region id l.toArray true).wpIn (Fence.wide.inRound r) n P Q a0 w0 := by
  refine onlyN_wp (wpIn_region_draw fun t => ?_)
  simp only [Region.schedule, hm, Bool.true_or, if_true]
  refine wpOps_in ?_ (onlyN_no Q) _ _ _ (wpAny_sound _ t _ _ _ (wp_region_FA dsts anc hok hdst hds WR fact h0 hmono hstep fun D V w h1 h2 h3 => ⟨rfl, hend D V w h1 h2 h3⟩))
  intro i o ho c hc
  have := List.all_eq_true.1 hdf o (List.mem_of_getElem? (by simpa using ho))
  rw [hc] at this
  cases this
end Go.Proofs.YtdaeofhdgabhjaaGreat
namespace Go.Proofs.YtdaeofhdgabhjaaGreat
open Go.RowKit
def RdV (w : World) (a : Option Addr) (xs : List Geo.V) : Prop :=
  ∀ i, i < xs.length → ∃ b off, a = some ⟨b, off, none⟩ ∧ b < w.heap.size ∧ w.cell? ⟨b, off + i * 2, none⟩ = some (.int .i64 (Geo.nth xs i).x) ∧ w.cell? ⟨b, off + i * 2 + 1, none⟩ = some (.int .i64 (Geo.nth xs i).y)
theorem RdV.below {w w' : World} {a : Option Addr} {xs : List Geo.V} (h : RdV w a xs) (hb : Below w.heap.size w w') : RdV w' a xs := by
  intro i hi
  obtain ⟨b, off, ha, hlt, h1, h2⟩ := h i hi
  exact ⟨b, off, ha, Nat.lt_of_lt_of_le hlt hb.size, (hb.cell (p := ⟨b, _, none⟩) hlt).trans h1, (hb.cell (p := ⟨b, _, none⟩) hlt).trans h2⟩
def flatG (xs : List Geo.S) : List Value := xs.flatMap fun s => [.int .i64 s.a.x, .int .i64 s.a.y, .int .i64 s.b.x, .int .i64 s.b.y]
theorem flatG_length (xs : List Geo.S) : (flatG xs).length = xs.length * 4 := by
  induction xs with
  | nil => rfl
  | cons s l ih => unfold flatG at *; simp only [List.flatMap_cons, List.length_append, ih, List.length_cons, List.length_nil]; omega
theorem flatG_append (xs ys : List Geo.S) : flatG (xs ++ ys) = flatG xs ++ flatG ys := by unfold flatG; rw [List.flatMap_append]
theorem Rd.of_row' {w : World} {base : Nat} {e : TypeId} {size : Nat} {v : Value} {n : Nat} {cs : List Value} (h : w.ownsRow base e size v n cs) : ∃ a c, v = .slice a n c ∧ Rd w a cs ∧ Fresh base a ∧ (a = none → c = 0) ∧ n ≤ c := by
  obtain ⟨a, c, hv, h1, h2, h3⟩ := Rd.of_row h
  refine ⟨a, c, hv, h1, h2, h3, ?_⟩
  rcases h.2 with ⟨h4, h5⟩ | ⟨g, cap, cur, h4, _, _, h5, _⟩
  · omega
  · rw [hv] at h4; simp only [Value.slice.injEq] at h4; omega
theorem ownsRow_base {w : World} {base base' : Nat} {e : TypeId} {size : Nat} {v : Value} {n : Nat} {xs : List Value} (h : w.ownsRow base e size v n xs) (hb : base' ≤ base) : w.ownsRow base' e size v n xs :=
  ⟨h.1, h.2.imp id fun ⟨g, cap, cur, h1, h2, h3⟩ => ⟨g, cap, cur, h1, Nat.le_trans hb h2, h3⟩⟩
def flatV (xs : List Geo.V) : List Value := xs.flatMap fun v => [.int .i64 v.x, .int .i64 v.y]
theorem flatV_length (xs : List Geo.V) : (flatV xs).length = xs.length * 2 := by
  induction xs with
  | nil => rfl
  | cons s l ih => unfold flatV at *; simp only [List.flatMap_cons, List.length_append, ih, List.length_cons, List.length_nil]; omega
theorem flatV_one (xs : List Geo.V) : ∀ u ∈ flatV xs, u.oneCell' = true := by
  intro u hu
  obtain ⟨v, _, hv⟩ := List.mem_flatMap.1 hu
  simp only [List.mem_cons, List.not_mem_nil, or_false] at hv
  rcases hv with rfl | rfl <;> rfl
theorem flatV_get (xs : List Geo.V) : ∀ (i : Nat), i < xs.length → (flatV xs)[i * 2]? = some (.int .i64 (Geo.nth xs i).x) ∧ (flatV xs)[i * 2 + 1]? = some (.int .i64 (Geo.nth xs i).y) := by
  induction xs with
  | nil => intro i hi; simp at hi
  | cons s l ih =>
    intro i hi
    have e : flatV (s :: l) = [.int .i64 s.x, .int .i64 s.y] ++ flatV l := by unfold flatV; rw [List.flatMap_cons]
    rw [e]
    cases i with
    | zero => simp [Geo.nth]
    | succ i =>
      have h := ih i (by simpa using hi)
      have e0 : (i + 1) * 2 = 2 + i * 2 := by omega
      rw [e0, List.getElem?_append_right (by simp), List.getElem?_append_right (by simp; omega)]
      simpa [Nat.add_assoc, Nat.add_sub_cancel_left, Geo.nth] using h
theorem RdV.of_rd {w : World} {a : Option Addr} {xs : List Geo.V} (h : Rd w a (flatV xs)) : RdV w a xs := by
  intro i hi
  obtain ⟨g0, g1⟩ := flatV_get xs i hi
  obtain ⟨b, off, ha, hlt, h0⟩ := h _ _ g0
  obtain ⟨b', off', he, _, h1⟩ := h _ _ g1
  rw [ha] at he
  simp only [Option.some.injEq, Addr.mk.injEq, and_true] at he
  obtain ⟨rfl, rfl⟩ := he
  exact ⟨b, off, ha, hlt, h0, h1⟩
theorem RdV.rd {w : World} {a : Option Addr} {xs : List Geo.V} (h : RdV w a xs) : Rd w a (flatV xs) := by
  intro i u hi
  have hlt : i < (flatV xs).length := (List.getElem?_eq_some_iff.1 hi).1
  rw [flatV_length] at hlt
  obtain ⟨g0, g1⟩ := flatV_get xs (i / 2) (by omega)
  obtain ⟨b, off, ha, hb, h0, h1⟩ := h (i / 2) (by omega)
  refine ⟨b, off, ha, hb, ?_⟩
  by_cases hm : i % 2 = 0
  · have e : i = i / 2 * 2 := by omega
    rw [e] at hi ⊢
    rw [g0] at hi; cases hi; exact h0
  · have e : i = i / 2 * 2 + 1 := by omega
    rw [e] at hi ⊢
    rw [g1] at hi; cases hi; exact h1
structure RV where
  a : Option Addr
  c : Nat
  r : Geo.Ring
instance : Inhabited RV := ⟨⟨none, 0, []⟩⟩
def RV.enc (x : RV) : Value := .slice x.a x.r.length x.c
def Len (x : RV) : Prop := x.r.length ≤ 1000 ∧ x.r.length ≤ x.c ∧ (x.a = none → x.c = 0)
def cellW (w : World) : CellP := fun b o v => w.cell? ⟨b, o, none⟩ = some v
theorem rep_ring {w : World} {a : Option Addr} {c : Nat} {r : List Geo.V} (h : RdV w a r) (hl : Len ⟨a, c, r⟩) : RepV (cellW w) (.sl r.length (encV r)) (.slice a r.length c) := by
  obtain ⟨_, h2, h3⟩ := hl
  dsimp only at h2 h3
  unfold RepV
  refine ⟨a, c, rfl, h2, fun ha => ⟨h3 ha, ?_⟩, ?_⟩
  · cases r with
    | nil => rfl
    | cons v r => obtain ⟨b, off, hb, _⟩ := h 0 (by simp); rw [ha] at hb; cases hb
  · rintro ad rfl
    refine ⟨fun h0 => ?_, RepC.of _ _ _ fun i x hi => ?_⟩
    · obtain ⟨b, off, hb, _⟩ := h 0 h0; cases hb; rfl
    · have hlt : i < (encV r).length := (List.getElem?_eq_some_iff.1 hi).1
      rw [wideV.length] at hlt
      obtain ⟨b, off, hb, _, h0, h1⟩ := h (i / 2) (by omega)
      cases hb
      have h4 := encV_at (v := r) (i := i / 2) (by omega)
      have g : ∀ j, j < 2 → (encV r)[i / 2 * 2 + j]? = ([.int .i64 (Geo.nth r (i / 2)).x, .int .i64 (Geo.nth r (i / 2)).y] : List PV)[j]? := fun j hj => by
        rw [← h4, List.getElem?_take, if_pos hj, List.getElem?_drop]
      rcases Nat.mod_two_eq_zero_or_one i with hm | hm
      · have := g 0 (by decide)
        rw [show i / 2 * 2 + 0 = i by omega, hi] at this
        cases this
        exact ⟨_, by show w.cell? _ = _; rw [show off + i = off + i / 2 * 2 by omega]; exact h0, rfl, by unfold RepV; rfl⟩
      · have := g 1 (by decide)
        rw [show i / 2 * 2 + 1 = i by omega, hi] at this
        cases this
        exact ⟨_, by show w.cell? _ = _; rw [show off + i = off + i / 2 * 2 + 1 by omega]; exact h1, rfl, by unfold RepV; rfl⟩
theorem RepL.one {C : CellP} {x : PV} {v : Value} (h : RepV C x v) : RepL C [x] [v] := by
  unfold RepL; exact ⟨_, _, rfl, h, by unfold RepL; rfl⟩
theorem RepL.cons_ {C : CellP} {x : PV} {v : Value} {l : List PV} {vs : List Value} (h : RepV C x v) (h2 : RepL C l vs) : RepL C (x :: l) (v :: vs) := by
  unfold RepL; exact ⟨_, _, rfl, h, h2⟩
theorem calls_of {f : FuncId} {xs : List SV} {r : SV} {B : List PV} {q : PV} {vs : List Value} {u : Value} {w : World} (h : ∃ A q, avs xs = A.map .p ∧ r.av = .p q ∧ Sat Tryz.prog false f A q) (hB : avs xs = B.map .p) (hq : r.av = .p q)
    (hu : ∀ C v, RepV C q v → v = u) (hr : RepL (cellW w) B vs) : Calls Tryz.prog f vs.toArray w fun e w' => e = .returned u ∧ Below w.heap.size w w' := by
  obtain ⟨A, q', h1, h2, h3⟩ := h
  rw [hq] at h2
  cases h2
  rw [hB] at h1
  have : B = A := by have := congrArg allP h1; rw [allP_mapp, allP_mapp] at this; cases this; rfl
  subst this
  refine (h3.2 (cellW w) w vs (fun _ _ _ h => h) hr).mono ?_
  rintro e w' ⟨v, rfl, hv, hb⟩
  exact ⟨by rw [hu _ _ hv], hb⟩
theorem ringValid_any (a : Option Addr) (c : Nat) (xs : List Geo.V) (w : World) (h : RdV w a xs) (hl : Len ⟨a, c, xs⟩) :
    Calls Tryz.prog 83 #[.slice a xs.length c] w fun e w' => e = .returned (.bool (Geo.validP xs)) ∧ Below w.heap.size w w' :=
  calls_of (k83 [.lst .V xs] xs rfl ((andL_iff (l := c83.pre xs)).1 hl.1)) (B := [.sl xs.length (encV xs)]) rfl rfl (fun C v h => by unfold RepV at h; exact h) (RepL.one (rep_ring h hl))
theorem area2_any (a : Option Addr) (c : Nat) (xs : List Geo.V) (w : World) (h : RdV w a xs) (hl : Len ⟨a, c, xs⟩) :
    Calls Tryz.prog 89 #[.slice a xs.length c] w fun e w' => e = .returned (.int .i64 (if Geo.validP xs then Geo.area xs else 0)) ∧ Below w.heap.size w w' :=
  calls_of (k89 [.lst .V xs] xs rfl ((andL_iff (l := c89.pre xs)).1 hl.1)) (B := [.sl xs.length (encV xs)]) rfl rfl (fun C v h => by unfold RepV at h; exact h) (RepL.one (rep_ring h hl))
theorem all_any (a : Option Addr) (c : Nat) (xs : List Geo.V) (a' : Option Addr) (c' : Nat) (ys : List Geo.V) (p : Int) (w : World) (h' : RdV w a' ys) (hl' : Len ⟨a', c', ys⟩) (h : RdV w a xs) (hl : Len ⟨a, c, xs⟩) :
    Calls Tryz.prog 123 #[.slice a xs.length c, .slice a' ys.length c', .int .i64 p] w fun e w' => e = .returned (.bool (Geo.allP xs ys p)) ∧ Below w.heap.size w w' :=
  calls_of (k123 [.lst .V xs, .lst .V ys, .int .i64 p] (xs, ys, p) rfl ((andL_iff (l := c123.pre (xs, ys, p))).1 ⟨hl.1, hl'.1⟩)) (B := [.sl xs.length (encV xs), .sl ys.length (encV ys), .int .i64 p]) rfl rfl (fun C v h => by unfold RepV at h; exact h)
    ((RepL.one (by unfold RepV; rfl)).cons_ (rep_ring h' hl') |>.cons_ (rep_ring h hl))
theorem apart_any (a : Option Addr) (c : Nat) (xs : List Geo.V) (a' : Option Addr) (c' : Nat) (ys : List Geo.V) (w : World) (h : RdV w a xs) (h' : RdV w a' ys) (hl : Len ⟨a, c, xs⟩) (hl' : Len ⟨a', c', ys⟩) :
    Calls Tryz.prog 124 #[.slice a xs.length c, .slice a' ys.length c'] w fun e w' => e = .returned (.bool (Geo.apartP xs ys)) ∧ Below w.heap.size w w' :=
  calls_of (k124 [.lst .V xs, .lst .V ys] (xs, ys) rfl ((andL_iff (l := c124.pre (xs, ys))).1 ⟨hl.1, hl'.1⟩)) (B := [.sl xs.length (encV xs), .sl ys.length (encV ys)]) rfl rfl (fun C v h => by unfold RepV at h; exact h)
    ((RepL.one (rep_ring h' hl')).cons_ (rep_ring h hl))
theorem edges_any (a : Option Addr) (c : Nat) (xs : List Geo.V) (w : World) (h : RdV w a xs) (hl : Len ⟨a, c, xs⟩) :
    Calls Tryz.prog 155 #[.slice a xs.length c] w fun e w' => ∃ a' c', e = .returned (.slice a' (Geo.edges xs).length c') ∧ Rd w' a' (flatG (Geo.edges xs)) ∧ Fresh w.heap.size a' ∧ (a' = none → c' = 0) ∧ Below w.heap.size w w' := by
  obtain ⟨A, Y, h1, h2, h3⟩ := k155 [.lst .V xs] xs rfl ((andL_iff (l := c155.pre xs)).1 hl.1)
  cases Y with
  | cons y Y => simp [avs] at h2
  | nil =>
  have hA : A = [.sl xs.length (encV xs)] := by
    have h1 : [AV.p (.sl xs.length (encV xs))] = A.map .p := h1
    have := congrArg allP h1
    rw [allP_mapp] at this
    cases this; rfl
  subst hA
  refine (h3.2.2 (cellW w) w [_] (fun _ _ _ h => h) (RepL.one (rep_ring h hl))).mono ?_
  rintro e w' ⟨v, us, q, c', rfl, hb, hys, hrow⟩
  unfold RepL at hys
  subst hys
  have e1 : ∀ l : List Geo.S, flatG l = (l.flatMap fun s => [s.a.x, s.a.y, s.b.x, s.b.y]).map (Value.int .i64) := fun l => by unfold flatG; rw [List.map_flatMap]; rfl
  have e2 : ∀ l : List Geo.S, LT.S.enc l = (l.flatMap fun s => [s.a.x, s.a.y, s.b.x, s.b.y]).map (PV.int .i64) := fun l => by unfold LT.enc; rw [List.map_flatMap]; rfl
  rcases hrow with ⟨_, rfl, hm, _, _⟩ | ⟨b, arr, _, rfl, h4, h5, h6, _, h7, _, h8⟩
  · have hn : Geo.edges xs = [] := List.length_eq_zero_iff.1 hm
    rw [hn]
    exact ⟨none, 0, rfl, (fun i u hi => by simp [flatG] at hi), (fun b hb => by cases hb), (fun _ => rfl), hb⟩
  · refine ⟨some ⟨b, 0, none⟩, c', rfl, fun i u hi => ?_, fun b' hb' => by cases hb'; exact h5, (fun e => by cases e), hb⟩
    rw [e1, List.getElem?_map, Option.map_eq_some_iff] at hi
    obtain ⟨n, hn, rfl⟩ := hi
    obtain ⟨u, g1, _, g2⟩ := h8 i (.int .i64 n) (by rw [e2, List.getElem?_map, hn]; rfl)
    unfold RepV at g2
    subst g2
    exact ⟨b, 0, rfl, (Array.getElem?_eq_some_iff.1 h6).1, by rw [Nat.zero_add, cell_of_row w' b i arr 46 (0, 0) h6]; exact g1⟩
end Go.Proofs.YtdaeofhdgabhjaaGreat
namespace Go.Proofs.YtdaeofhdgabhjaaGreat
open Go.RowKit Go.Shelf
attribute [local go_sem] Oper.semAt_some
def RdH (n0 : Nat) (w : World) (ah : Option Addr) (hs : List RV) : Prop := ∀ i, i < hs.length → ∃ b off, ah = some ⟨b, off, none⟩ ∧ b < n0 ∧ w.cell? ⟨b, off + i, none⟩ = some (RV.enc (hs.getD i default))
theorem RdH.below {n0 : Nat} {w w' : World} {ah : Option Addr} {hs : List RV} (h : RdH n0 w ah hs) (hb : Below n0 w w') : RdH n0 w' ah hs := by
  intro i hi
  obtain ⟨b, off, ha, hlt, h1⟩ := h i hi
  exact ⟨b, off, ha, hlt, (hb.cell (p := ⟨b, _, none⟩) hlt).trans h1⟩
theorem RdH.mono {n0 n1 : Nat} {w : World} {ah : Option Addr} {hs : List RV} (h : RdH n0 w ah hs) (hn : n0 ≤ n1) : RdH n1 w ah hs := by
  intro i hi
  obtain ⟨b, off, ha, hlt, h1⟩ := h i hi
  exact ⟨b, off, ha, by omega, h1⟩
def Kp2 (n0 b : Nat) (W W' : World) : Prop := Below n0 W W' ∧ W'.heap[b]? = W.heap[b]?
theorem Kp2.trans {n0 b : Nat} {A B C : World} (h : Kp2 n0 b A B) (k : Kp2 n0 b B C) : Kp2 n0 b A C := ⟨h.1.trans k.1, k.2.trans h.2⟩
theorem Kp2.blk {n0 b : Nat} {W W' : World} {t : TypeId} {cs : Array Value} (h : Kp2 n0 b W W') (hb : Blk W b t cs) : Blk W' b t cs := h.2.trans hb
set_option maxRecDepth 100000 in
set_option maxHeartbeats 2000000 in
theorem rings1_in (F : Fence) (n : Nat) (h179 : F.fn 179) (hro : F.round = none) (hn : 1 ≤ n) (l b n0 : Nat) (o : RV) (ah : Option Addr) (ch : Nat) (hs : List RV) (hhs : hs.length ≤ 1000) (J Jx : List RV → World → Prop)
    (hY : ∀ pre x W, x ∈ o :: hs → J pre W → pre.length < hs.length + 1 → YieldAt F (n - 1) Tryz.prog l #[RV.enc x] W fun e W' =>
      (e = .returned (.bool true) ∧ J (pre ++ [x]) W' ∧ Kp2 n0 b W W') ∨ (e = .returned (.bool false) ∧ Jx (pre ++ [x]) W'))
    (W : World) (hB : Blk W b 26 #[RV.enc o, .slice ah hs.length ch]) (hH : RdH n0 W ah hs) (h0 : J [] W) :
    CallsIn F n Tryz.prog 179 #[.func (.yield l) #[] #[], .pointer (some ⟨b, 0, none⟩)] W fun e W' => (∃ v, e = .returned v) ∧
      ((∃ ys, ys = o :: hs ∧ J ys W') ∨ (∃ pre, pre <+: o :: hs ∧ Jx pre W')) := by
  obtain ⟨fn, tmps, assign, body, hy, hR⟩ := hY [] o W List.mem_cons_self h0 (by simp)
  dsimp only [RV.enc] at hy
  have c0 := hB.cell 0
  have c1 := hB.cell 1
  simp [RV.enc] at c0 c1
  refine callsIn_of_wp Tryz.func179 rfl h179 ?_ hro
  simp only [Tryz.ntmps179, List.size_toArray, List.length_cons, List.length_nil, Nat.reduceAdd, Nat.reduceSub, Array.replicate_succ, Array.replicate_zero, List.push_toArray, List.append_toArray, List.nil_append, List.cons_append]
  gi_wp2
  refine hR.mono ?_
  rintro e W1 (⟨rfl, hJ1, hk1⟩ | ⟨rfl, hJx1⟩)
  · have hB1 := hk1.blk hB
    have hH1 := hH.below hk1.1
    clear c0 c1 hR hy
    have c0 := hB1.cell 0
    have c1 := hB1.cell 1
    simp [RV.enc] at c0 c1
    gi_wp2
    gi_loopw [4, 13] (fun _ i wr => ∃ k : Nat, k ≤ hs.length ∧ i = .int .i64 k ∧ J (o :: hs.take k) wr ∧ Kp2 n0 b W1 wr) (fun _ i _ => hs.length - (intOf i).toNat)
    case atStart => exact ⟨0, by omega, rfl, by simpa using hJ1, Below.refl _ _, rfl⟩
    case round =>
      obtain ⟨k, hk, rfl, hJr, hkr⟩ := hrel
      by_cases hlt : k < hs.length
      · obtain ⟨bb, off, rfl, hbb, p0⟩ := hH1.below hkr.1 k hlt
        have hblt : bb < wr.heap.size := by
          rcases Nat.lt_or_ge bb wr.heap.size with h | h
          · exact h
          · simp [World.cell?, Array.getElem?_eq_none h] at p0
        have htk : o :: hs.take (k + 1) = (o :: hs.take k) ++ [hs.getD k default] := by
          rw [List.take_add_one, List.getD_eq_getElem?_getD, List.getElem?_eq_getElem hlt]
          simp
        obtain ⟨fn, tmps, assign, body, hy, hR⟩ := hY (o :: hs.take k) (hs.getD k default) wr (List.mem_cons_of_mem _ (by rw [List.getD_eq_getElem?_getD, List.getElem?_eq_getElem hlt]; exact List.getElem_mem hlt)) hJr (by simp; omega)
        rw [← htk] at hR
        dsimp only [RV.enc] at hy
        unfold RV.enc at p0
        clear htk
        generalize hs.getD k default = z at hy p0
        gi_wp2
        refine hR.mono ?_
        rintro e W3 (⟨rfl, hJ3, hk3⟩ | ⟨rfl, hJx3⟩)
        · gi_wp2
          go_roundw
          case rel => exact ⟨k + 1, by omega, by go_num, hJ3, hkr.trans hk3⟩
          case measure => simp [intOf]; omega
        · gi_wp2
          refine bodyPost_ret (results_none rfl _ _ _) rfl ?_
          exact ⟨⟨_, rfl⟩, .inr ⟨_, ⟨hs.drop (k + 1), by simp⟩, hJx3⟩⟩
      · have hk2 : k = hs.length := by omega
        subst hk2
        rw [List.take_length] at hJr
        gi_wp2
        go_end0
        exact ⟨⟨_, rfl⟩, .inl ⟨_, rfl, hJr⟩⟩
  · gi_wp2
    refine bodyPost_ret (results_none rfl _ _ _) rfl ?_
    exact ⟨⟨_, rfl⟩, .inr ⟨_, ⟨hs, by simp⟩, hJx1⟩⟩
theorem rings1_stops (F : Fence) (n : Nat) (h179 : F.fn 179) (hro : F.round = none) (hn : 1 ≤ n) (b n0 : Nat) (o : RV) (ah : Option Addr) (ch : Nat) (hs : List RV) (hhs : hs.length ≤ 1000) (w : World) (hn0 : n0 ≤ w.heap.size) (hB : Blk w b 26 #[RV.enc o, .slice ah hs.length ch]) (hH : RdH n0 w ah hs) :
    SeqStopsK F n Tryz.prog 179 #[.pointer (some ⟨b, 0, none⟩)] (fun x : { x : RV // x ∈ o :: hs } => #[RV.enc x.1]) (Kp2 n0 b) (fun ys => ys.map (·.1) = o :: hs) (fun pre => pre.map (·.1) <+: o :: hs) (hs.length + 1) w := fun l J Jx W hW _ _ hY h0 => by
  refine (rings1_in F n h179 hro hn l b n0 o ah ch hs hhs (fun pre W => ∃ p : List { x : RV // x ∈ o :: hs }, p.map (·.1) = pre ∧ J p W) (fun pre W => ∃ p : List { x : RV // x ∈ o :: hs }, p.map (·.1) = pre ∧ Jx p W) ?_ W (hB.then_ hW) (hH.below (hW.mono hn0)) ⟨[], rfl, h0⟩).mono ?_
  · rintro pre x W' hx ⟨p, rfl, hJ⟩ hl
    obtain ⟨fn, tmps, assign, body, hy, hR⟩ := hY p ⟨x, hx⟩ W' hJ (by simpa using hl)
    refine ⟨fn, tmps, assign, body, hy, hR.mono ?_⟩
    rintro e W2 (⟨rfl, h1, h2⟩ | ⟨rfl, h1⟩)
    · exact .inl ⟨rfl, ⟨p ++ [⟨x, hx⟩], by simp, h1⟩, h2⟩
    · exact .inr ⟨rfl, ⟨p ++ [⟨x, hx⟩], by simp, h1⟩⟩
  · rintro e W' ⟨hv, ⟨ys, rfl, p, hp, hJ⟩ | ⟨pre, hpre, p, rfl, hJ⟩⟩
    · exact ⟨hv, .inl ⟨p, hp, hJ⟩⟩
    · exact ⟨hv, .inr ⟨p, hpre, hJ⟩⟩
theorem kp2_b {n0 b : Nat} {w : World} (hn : n0 ≤ w.heap.size) (hb : b < w.heap.size) (W : World) (l : Nat) (o o' : Obj) (hl : w.heap.size ≤ l) (h : W.heap[l]? = some o) (h1 : o.isCells = false) (h2 : o.isWalk = false) : Kp2 n0 b W (W.putObj l o') :=
  ⟨belowK_b hn W l o o' hl h h1 h2, World.putObj_heap_other (by omega)⟩
theorem rings_any (o : RV) (ah : Option Addr) (nh ch : Nat) (w : World) :
    Calls Tryz.prog 122 #[.agg #[RV.enc o, .slice ah nh ch]] w fun e w' => e = .returned (.func (.func 179) #[] #[.pointer (some ⟨w.heap.size, 0, none⟩)]) ∧ w' = w.alloc (.cells #[RV.enc o, .slice ah nh ch] 26) := by
  unfold RV.enc
  go_enter Tryz.func122, Tryz.ntmps122
  go_wp2
  go_ret
  exact ⟨rfl, rfl⟩
end Go.Proofs.YtdaeofhdgabhjaaGreat
namespace Go.Proofs.YtdaeofhdgabhjaaGreat
open Go.RowKit Go.Shelf
open Geo (nthR)
attribute [local go_sem] Oper.semAt_some
structure RdSh (w : World) (o : RV) (ah : Option Addr) (hs : List RV) : Prop where
  h : RdH w.heap.size w ah hs
  v : ∀ x ∈ o :: hs, RdV w x.a x.r ∧ Len x
  n : hs.length ≤ 1000
theorem RdSh.below {w w' : World} {o : RV} {ah : Option Addr} {hs : List RV} (H : RdSh w o ah hs) (hb : Below w.heap.size w w') : RdSh w' o ah hs :=
  ⟨(H.h.below hb).mono hb.size, fun x hx => ⟨(H.v x hx).1.below hb, (H.v x hx).2⟩, H.n⟩
def geoS (o : RV) (hs : List RV) : Geo.Shape := ⟨o.r, hs.map RV.r⟩
section
variable {F : Fence} {n : Nat} {P : Program} {fn : Func} {R : Ending → World → Prop} {a : Act} {w : World} {v : Value}
theorem postM_ret0 (hr : (results fn a.tmps).run P w = .ok v w) (hd : a.defers = []) (hR : R (.returned v) w) : bodyPostM F n P fn R .ret a w := by
  show LeavesInM F n P fn a.tmps R a.defers .returning w
  rw [hd]
  exact ⟨v, hr, hR⟩
theorem postM_retD {D : Nat} (hd : a.defers = [{ target := .collected D, args := #[] }]) (hK : w.heap[D]? = some (.deferred (some []))) (hr : (results fn a.tmps).run P (w.putObj D (.deferred none)) = .ok v (w.putObj D (.deferred none)))
    (hR : R (.returned v) (w.putObj D (.deferred none))) : bodyPostM F n P fn R .ret a w := by
  show LeavesInM F n P fn a.tmps R a.defers .returning w
  rw [hd]
  exact ⟨by simp, .inl ⟨_, _, rfl, run_takeDeferred hK, v, hr, hR⟩⟩
end
theorem below_mark {n0 D : Nat} {W : World} (hD : n0 ≤ D) (hK : W.heap[D]? = some (.deferred (some []))) : Below n0 W (W.putObj D (.deferred none)) :=
  (Below.refl n0 W).grown (grownBy_putObj' W D _) (by have := (Array.getElem?_eq_some_iff.1 hK).1; omega) (fun k e => by cases e; omega)
theorem keeps_below {W W' : World} (h : Below W.heap.size W W') : KeepsOthers W W' :=
  ⟨h.size, fun k _o hk _ => (h.block k (Array.getElem?_eq_some_iff.1 hk).1).trans hk⟩
theorem blk_own {β : Type} {B g : Nat} {t : TypeId} {cs : β → Array Value} : OwnFrom B (fun (s : β) W => Blk W g t (cs s)) := fun s W W' row h hg hr => by
  have h' : W.heap[g]? = some (.cells (cs s) t (0, 0)) := h
  show W'.heap[g]? = some (.cells (cs s) t (0, 0))
  refine (hg.block g (Array.getElem?_eq_some_iff.1 h').1 ?_).trans h'
  intro e
  obtain ⟨_, o, ho, hc⟩ := hr g e.symm
  rw [h'] at ho
  cases ho
  cases hc
theorem own_of {β : Type} {B : Nat} {p : β → Prop} : OwnFrom B (fun (s : β) (_ : World) => p s) := fun _ _ _ _ h _ _ => h
theorem blk_mark {W : World} {D g : Nat} {t : TypeId} {cs : Array Value} (h : Blk W g t cs) (hK : W.heap[D]? = some (.deferred (some []))) (o' : Obj) : Blk (W.putObj D o') g t cs := by
  have h' : W.heap[g]? = some (.cells cs t (0, 0)) := h
  refine (World.putObj_heap_other ?_).trans h'
  intro e
  subst e
  rw [h'] at hK
  cases hK
theorem post55 {F : Fence} {n : Nat} {R : Ending → World → Prop} {W : World} {D s : Nat} {T : Array Value} {v : Bool} (hT : T.getD 2 undef = .pointer (some ⟨s, 0, none⟩)) (b2 : Blk W s 4 #[.bool v]) (hK : W.heap[D]? = some (.deferred (some [])))
    (hR : R (.returned (.bool v)) (W.putObj D (.deferred none))) : bodyPostM F n Tryz.prog Tryz.f55 R .ret { tmps := T, defers := [{ target := .collected D, args := #[] }] } W := by
  refine postM_retD (v := .bool v) rfl hK ?_ hR
  have c2 := (blk_mark b2 hK (.deferred none)).cell 0
  simp at c2
  rw [Array.getD_eq_getD_getElem?] at hT
  simp [results, Tryz.f55, go_sem, hT, c2]
theorem validS_many {s : Geo.Shape} (h : 6 < s.holes.length) : Geo.validSP s = false := by
  unfold Geo.validSP
  rw [decide_eq_false (by omega)]; simp
def holeOK (o : Geo.Ring) (L : List Geo.Ring) (i : Nat) : Bool := Geo.allP (nthR L i) o 2 && Geo.apartP (nthR L i) o &&
    ((List.range i).all fun k => Geo.apartP (nthR L i) (nthR L k) && Geo.allP (nthR L i) (nthR L k) 0 && Geo.allP (nthR L k) (nthR L i) 0)
def pairH (L : List Geo.Ring) (i k : Nat) : Bool := Geo.apartP (nthR L i) (nthR L k) && Geo.allP (nthR L i) (nthR L k) 0 && Geo.allP (nthR L k) (nthR L i) 0
theorem validSP_def (s : Geo.Shape) : Geo.validSP s = (decide (s.holes.length ≤ 6) && (Geo.ringsS s).all Geo.validP && decide (Geo.cornersS s ≤ 80) && ((List.range s.holes.length).all (holeOK s.outer s.holes))) := rfl
theorem validS_hole {s : Geo.Shape} {i : Nat} (hi : i < s.holes.length) (h : holeOK s.outer s.holes i = false) : Geo.validSP s = false := by
  rw [validSP_def]
  have : ((List.range s.holes.length).all (holeOK s.outer s.holes)) = false := List.all_eq_false.2 ⟨i, List.mem_range.2 hi, by simp [h]⟩
  rw [this]; simp
theorem validS_corners {s : Geo.Shape} (h : 80 < Geo.cornersS s) : Geo.validSP s = false := by
  rw [validSP_def, decide_eq_false (show ¬ Geo.cornersS s ≤ 80 by omega)]; simp
theorem validS_ring {s : Geo.Shape} {r : Geo.Ring} (hr : r ∈ Geo.ringsS s) (h : Geo.validP r = false) : Geo.validSP s = false := by
  rw [validSP_def]
  have : ((Geo.ringsS s).all Geo.validP) = false := List.all_eq_false.2 ⟨r, hr, by simp [h]⟩
  rw [this]; simp
theorem validS_all {s : Geo.Shape} (h1 : ¬ 6 < s.holes.length) (h2 : ∀ r ∈ Geo.ringsS s, Geo.validP r = true) (h3 : ¬ 80 < Geo.cornersS s) (h4 : ∀ i, i < s.holes.length → holeOK s.outer s.holes i = true) : Geo.validSP s = true := by
  rw [validSP_def, decide_eq_true (show s.holes.length ≤ 6 by omega), decide_eq_true (show Geo.cornersS s ≤ 80 by omega), List.all_eq_true.2 h2]
  simp only [Bool.true_and, Bool.and_true, List.all_eq_true, List.mem_range]
  exact h4
theorem holeOK_of {o : Geo.Ring} {L : List Geo.Ring} {i : Nat} (h1 : Geo.allP (nthR L i) o 2 = true) (h2 : Geo.apartP (nthR L i) o = true) (h3 : ∀ k, k < i → pairH L i k = true) : holeOK o L i = true := by
  unfold holeOK
  rw [h1, h2]
  simp only [Bool.true_and, List.all_eq_true, List.mem_range]
  exact h3
theorem holeOK_no1 {o : Geo.Ring} {L : List Geo.Ring} {i : Nat} (h1 : Geo.allP (nthR L i) o 2 = false) : holeOK o L i = false := by unfold holeOK; rw [h1]; simp
theorem holeOK_no2 {o : Geo.Ring} {L : List Geo.Ring} {i : Nat} (h1 : Geo.apartP (nthR L i) o = false) : holeOK o L i = false := by unfold holeOK; rw [h1]; simp
theorem holeOK_no3 {o : Geo.Ring} {L : List Geo.Ring} {i k : Nat} (hk : k < i) (h1 : pairH L i k = false) : holeOK o L i = false := by
  unfold holeOK
  have : ((List.range i).all fun k => Geo.apartP (nthR L i) (nthR L k) && Geo.allP (nthR L i) (nthR L k) 0 && Geo.allP (nthR L k) (nthR L i) 0) = false := List.all_eq_false.2 ⟨k, List.mem_range.2 hk, by simpa [pairH] using h1⟩
  rw [this]; simp
theorem nthR_map (hs : List RV) {k : Nat} (hk : k < hs.length) : nthR (hs.map RV.r) k = (hs.getD k default).r := by
  unfold nthR; simp [List.getD_eq_getElem?_getD, hk]
theorem getD_mem (hs : List RV) {k : Nat} (hk : k < hs.length) : hs.getD k default ∈ hs := by
  rw [List.getD_eq_getElem?_getD, List.getElem?_eq_getElem hk]; exact List.getElem_mem hk
set_option maxRecDepth 100000 in
set_option maxHeartbeats 2000000 in
theorem shapeValid_any (o : RV) (ah : Option Addr) (ch : Nat) (hs : List RV) (w : World) (H : RdSh w o ah hs) (hch : hs.length ≤ ch) :
    Calls Tryz.prog 55 #[.agg #[RV.enc o, .slice ah hs.length ch]] w fun e w' => e = .returned (.bool (Geo.validSP (geoS o hs))) ∧ Below w.heap.size w w' := by
  have hN := H.n
  by_cases c1 : 6 < hs.length
  · have HV : Hid (Geo.validSP (geoS o hs) = false) := Lib.hid (validS_many (by unfold geoS; simpa using c1))
    have d1 : decide ((6 : Int) < hs.length) = true := decide_eq_true (by omega)
    refine (callsIn_wide (n := 9)).1 (callsIn_of_wp_marks Tryz.func55 rfl trivial ((wpIn_wide (n := 9)).2 ?_) rfl)
    simp only [Tryz.ntmps55, List.size_toArray, List.length_cons, List.length_nil, Nat.reduceAdd, Nat.reduceSub, Array.replicate_succ, Array.replicate_zero, List.push_toArray, List.append_toArray, List.nil_append, List.cons_append]
    dsimp only [RV.enc]
    go_wp2_with fail
    have hBW : Below w.heap.size w (((w.alloc (.cells #[.slice o.a o.r.length o.c, .slice ah hs.length ch] 26)).alloc (.cells #[.bool false] 4))) := ((Below.refl _ _).alloc (Nat.le_refl _) _).alloc (by simp) _
    refine postM_ret0 (v := .bool false) ?_ rfl ?_
    · simp [results, Tryz.f55, go_sem]
    · exact ⟨by rw [HV.out], hBW⟩
  · have d1 : decide ((6 : Int) < hs.length) = false := decide_eq_false (by omega)
    refine (callsIn_wide (n := 9)).1 (callsIn_of_wp_marks Tryz.func55 rfl trivial ((wpIn_wide (n := 9)).2 ?_) rfl)
    simp only [Tryz.ntmps55, List.size_toArray, List.length_cons, List.length_nil, Nat.reduceAdd, Nat.reduceSub, Array.replicate_succ, Array.replicate_zero, List.push_toArray, List.append_toArray, List.nil_append, List.cons_append]
    dsimp only [RV.enc]
    go_wp2_with fail
    refine (rings_any o ah hs.length ch _).mono ?_
    rintro e w1 ⟨rfl, rfl⟩
    go_wp2_with fail
    have B1 := (((Blk.new w 26 #[.slice o.a o.r.length o.c, .slice ah hs.length ch]).alloc (.cells #[.bool false] 4)).alloc (.cells #[.int .i64 0] 3)).alloc (.cells #[RV.enc o, .slice ah hs.length ch] 26)
    have B2 := ((Blk.new (w.alloc (.cells #[.slice o.a o.r.length o.c, .slice ah hs.length ch] 26)) 4 #[.bool false]).alloc (.cells #[.int .i64 0] 3)).alloc (.cells #[RV.enc o, .slice ah hs.length ch] 26)
    have B3 := (Blk.new ((w.alloc (.cells #[.slice o.a o.r.length o.c, .slice ah hs.length ch] 26)).alloc (.cells #[.bool false] 4)) 3 #[.int .i64 0]).alloc (.cells #[RV.enc o, .slice ah hs.length ch] 26)
    have B4 := Blk.new (((w.alloc (.cells #[.slice o.a o.r.length o.c, .slice ah hs.length ch] 26)).alloc (.cells #[.bool false] 4)).alloc (.cells #[.int .i64 0] 3)) 26 #[RV.enc o, .slice ah hs.length ch]
    have hBW : Below w.heap.size w ((((w.alloc (.cells #[.slice o.a o.r.length o.c, .slice ah hs.length ch] 26)).alloc (.cells #[.bool false] 4)).alloc (.cells #[.int .i64 0] 3)).alloc (.cells #[RV.enc o, .slice ah hs.length ch] 26)) := ((((Below.refl _ _).alloc (Nat.le_refl _) _).alloc (by simp) _).alloc (by simp; omega) _).alloc (by simp; omega) _
    have hs0 : w.heap.size + 4 = ((((w.alloc (.cells #[.slice o.a o.r.length o.c, .slice ah hs.length ch] 26)).alloc (.cells #[.bool false] 4)).alloc (.cells #[.int .i64 0] 3)).alloc (.cells #[RV.enc o, .slice ah hs.length ch] 26)).heap.size := by simp
    simp only [World.size_alloc] at B1 B2 B3 B4
    generalize (((w.alloc (.cells #[.slice o.a o.r.length o.c, .slice ah hs.length ch] 26)).alloc (.cells #[.bool false] 4)).alloc (.cells #[.int .i64 0] 3)).alloc (.cells #[RV.enc o, .slice ah hs.length ch] 26) = W0 at B1 B2 B3 B4 hBW hs0 ⊢
    refine (wpIn_wide (n := 9)).1 ?_
    refine' wpIn_rangeFunc_ownF (F := Fence.wide) (n := 9) rfl (by omega) (gf := 179) (lb := #[.pointer (some ⟨w.heap.size + 1 + 1 + 1, 0, none⟩)]) rfl trivial (enters_of Tryz.func179 (by kernel_rfl) rfl)
      (rings1_stops Fence.wide 8 trivial rfl (by omega) (w.heap.size + 1 + 1 + 1) w.heap.size o ah ch hs H.n W0 (by omega) B4 (H.h.below hBW)) Kp2.trans (kp2_b (by omega) (by omega)) (Below.refl _ _) (fun _ => rfl)
      (fun pre W => ((Blk W w.heap.size 26 #[.slice o.a o.r.length o.c, .slice ah hs.length ch] ∧ (Blk W (w.heap.size + 1) 4 #[.bool false] ∧ Blk W (w.heap.size + 1 + 1 + 1) 26 #[RV.enc o, .slice ah hs.length ch])) ∧ Blk W (w.heap.size + 1 + 1) 3 #[.int .i64 ((pre.map fun x => x.1.r.length).sum : Nat)]) ∧ (((pre.map fun x => x.1.r.length).sum ≤ 1000 * pre.length ∧ ∀ x ∈ pre, Geo.validP x.1.r = true) ∧ Below w.heap.size w W))
      (fun c pre W => Blk W (w.heap.size + 1) 4 #[.bool false] ∧ ((c = .ret ∧ ∃ x ∈ pre, Geo.validP x.1.r = false) ∧ Below w.heap.size w W))
      (OwnFrom.and (OwnFrom.and (OwnFrom.and blk_own (OwnFrom.and blk_own blk_own)) blk_own) (OwnFrom.and own_of (ownFrom_below (Nat.le_refl _) (by omega))))
      (fun c => OwnFrom.and blk_own (OwnFrom.and own_of (ownFrom_below (Nat.le_refl _) (by omega))))
      ⟨⟨⟨B1, B2, B4⟩, B3⟩, ⟨by simp, by simp⟩, hBW⟩ _ ?assign ?body ?done ?stop
    case assign =>
      intro l x W K hK
      dsimp only [RV.enc]
      gi_wp2
      exact hK
    case body =>
      rintro l pre ⟨⟨xa, xc, xr⟩, hxm⟩ W ⟨⟨⟨b1, b2, b4⟩, b3⟩, ⟨hsum, hval⟩, hb⟩ hlen
      obtain ⟨hxr, hxl⟩ := H.v _ hxm
      dsimp only at hxr hxl
      have hxn : xr.length ≤ 1000 := hxl.1
      have HS : Hid (((pre ++ [(⟨⟨xa, xc, xr⟩, hxm⟩ : { x : RV // x ∈ o :: hs })]).map fun x : { x : RV // x ∈ o :: hs } => x.1.r.length).sum = (pre.map fun x => x.1.r.length).sum + xr.length) := Lib.hid (by simp)
      obtain ⟨S, hS⟩ : ∃ S, S = (List.map (fun x : { x : RV // x ∈ o :: hs } => List.length x.1.r) pre).sum := ⟨_, rfl⟩
      rw [← hS] at b3 hsum HS
      clear hS
      have hSb : S ≤ 1001000 := by have := H.n; omega
      have c2 := b2.cell 0
      have c3 := b3.cell 0
      have f2 := b2.frozen 0
      have f3 := b3.frozen 0
      simp at c2 c3
      dsimp only [RV.enc]
      clear H d1 hN hBW B1 B2 B3 B4 hs0
      gi_wp2_with fail
      refine ⟨trivial, (CallsIn.inRound l (callsIn_wide.2 (ringValid_any xa xc xr _ (hxr.below (hb.setCell (p := ⟨w.heap.size + 1 + 1, 0, none⟩) (by simp; omega) _)) hxl))).mono ?_⟩
      rintro e w1 ⟨rfl, hb1⟩
      have hk : KeepsOthers W w1 := (KeepsOthers.setCell W _ _).trans (keeps_below hb1)
      have q2 := (b2.far (p := ⟨w.heap.size + 1 + 1, 0, none⟩) (by simp) (.int .i64 ((S : Int) + xr.length))).then_ hb1
      have q1 := (b1.far (p := ⟨w.heap.size + 1 + 1, 0, none⟩) (by simp; omega) (.int .i64 ((S : Int) + xr.length))).then_ hb1
      have q4 := (b4.far (p := ⟨w.heap.size + 1 + 1, 0, none⟩) (by simp) (.int .i64 ((S : Int) + xr.length))).then_ hb1
      have q3 := (b3.set_ 0 (.int .i64 ((S : Int) + xr.length))).then_ hb1
      have hB1 : Below w.heap.size W w1 := ((Below.refl _ W).setCell (p := ⟨w.heap.size + 1 + 1, 0, none⟩) (by simp; omega) _).trans (hb1.mono (by have := hb.size; simpa using this))
      have hK : Kp2 w.heap.size (w.heap.size + 1 + 1 + 1) W w1 := ⟨hB1, Eq.trans q4 (Eq.symm b4)⟩
      clear hb1 c2 c3 f2 f3 b1 b2 b3 b4
      cases hv : Geo.validP xr with
      | true =>
        gi_wp2
        refine ⟨hk, hK, ⟨⟨q1, q2, q4⟩, ?_⟩, ⟨?_, ?_⟩, hb.trans hB1⟩
        · rw [HS.out]; simpa using q3
        · rw [HS.out]; simp; omega
        · intro x hx
          rcases List.mem_append.1 hx with h | h
          · exact hval x h
          · simp at h; subst h; exact hv
      | false =>
        have c2 := q2.cell 0
        have f2 := q2.frozen 0
        simp at c2
        gi_wp2
        refine ⟨hk.trans (KeepsOthers.setCell _ _ _), by simpa using q2.set_ 0 (.bool false), ⟨rfl, ⟨_, List.mem_append.2 (.inr List.mem_cons_self), hv⟩⟩, (hb.trans hB1).setCell (p := ⟨w.heap.size + 1, 0, none⟩) (by simp) _⟩
    case stop =>
      rintro D c pre W hD hpre ⟨b2, ⟨rfl, x, hx, hv⟩, hb⟩ hK
      have HV : Hid (Geo.validSP (geoS o hs) = false) := Lib.hid (validS_ring (r := x.1.r) (by have := x.2; unfold geoS Geo.ringsS; simp only [List.mem_cons] at this ⊢; rcases this with h | h; exact .inl (by rw [h]); exact .inr (List.mem_map.2 ⟨_, h, rfl⟩)) hv)
      gi_wp2
      exact post55 rfl b2 hK ⟨by rw [HV.out], hb.trans (below_mark (by omega) hK)⟩
    case done =>
      rintro D xs W hD hxs ⟨⟨⟨b1, b2, b4⟩, b3⟩, ⟨hsum, hval⟩, hb⟩ hK
      have hN7 : xs.length ≤ 7 := by have := congrArg List.length hxs; simp at this; omega
      have HC : (xs.map fun x => x.1.r.length).sum = Geo.cornersS (geoS o hs) := by
        have e : (xs.map fun x => x.1.r.length) = (xs.map (·.1)).map fun x => x.r.length := by rw [List.map_map]; rfl
        rw [e, hxs]; unfold Geo.cornersS Geo.ringsS geoS; simp [Function.comp_def]
      have HA : Hid (∀ r ∈ Geo.ringsS (geoS o hs), Geo.validP r = true) := Lib.hid (by
        intro r hr
        have hr2 : r ∈ (o :: hs).map RV.r := by unfold Geo.ringsS geoS at hr; simpa using hr
        obtain ⟨y, hy, rfl⟩ := List.mem_map.1 hr2
        rw [← hxs] at hy
        obtain ⟨z, hz, rfl⟩ := List.mem_map.1 hy
        exact hval z hz)
      rw [HC] at b3 hsum
      clear HC hval hxs b4 B1 B2 B3 B4
      have c80' := Lib.hid (fun h : 80 < Geo.cornersS (geoS o hs) => validS_corners h)
      have HVA := Lib.hid (fun (h : ¬ 80 < Geo.cornersS (geoS o hs)) h4 => validS_all (s := geoS o hs) (by unfold geoS; simpa using c1) HA.out h h4)
      generalize Geo.cornersS (geoS o hs) = N at b3 hsum c80' HVA
      have hNb : N ≤ 7000 := by omega
      clear HA hsum hN7 xs
      have c3 := b3.cell 0
      have f2 := b2.frozen 0
      have c2 := b2.cell 0
      have d0 := b1.cell 0
      have d1' := b1.cell 1
      simp at c2 c3 d0 d1'
      have hne : D ≠ w.heap.size + 1 := by omega
      have hKs : ∀ v, (W.setCell ⟨w.heap.size + 1, 0, none⟩ v).heap[D]? = some (.deferred (some [])) := fun v => (Below.heap_setCell W ⟨w.heap.size + 1, 0, none⟩ v D (by simpa using hne)).trans hK
      by_cases c80 : 80 < N
      · have d80 : decide ((80 : Int) < N) = true := decide_eq_true (by omega)
        have HV := Lib.hid (c80'.out c80)
        clear c80' HVA hNb c80
        go_wp2
        exact post55 rfl (by simpa using b2.set_ 0 (.bool false)) (hKs _) ⟨by rw [HV.out], (hb.setCell (p := ⟨w.heap.size + 1, 0, none⟩) (by simp) _).trans (below_mark (by omega) (hKs _))⟩
      · have d80 : decide ((80 : Int) < N) = false := decide_eq_false (by omega)
        replace HVA := Lib.hid (HVA.out c80)
        clear c80' c80 hNb b3
        go_wp2_with fail
        have hDl : D < W.heap.size := (Array.getElem?_eq_some_iff.1 hK).1
        have hKX : ∀ wx, Below W.heap.size W wx → (wx.setCell ⟨w.heap.size + 1, 0, none⟩ (.bool false)).heap[D]? = some (.deferred (some [])) := fun wx h => (Below.heap_setCell wx ⟨w.heap.size + 1, 0, none⟩ _ D (by simpa using hne)).trans ((h.block D hDl).trans hK)
        have hKT : ∀ wx, Below W.heap.size W wx → (wx.setCell ⟨w.heap.size + 1, 0, none⟩ (.bool true)).heap[D]? = some (.deferred (some [])) := fun wx h => (Below.heap_setCell wx ⟨w.heap.size + 1, 0, none⟩ _ D (by simpa using hne)).trans ((h.block D hDl).trans hK)
        have ho := H.v o List.mem_cons_self
        have hol : (geoS o hs).outer = o.r := rfl
        have hhl : (geoS o hs).holes = hs.map RV.r := rfl
        have hlen : (geoS o hs).holes.length = hs.length := by rw [hhl, List.length_map]
        have HNO := Lib.hid (fun i (hi : i < hs.length) h => validS_hole (s := geoS o hs) (i := i) (by rw [hlen]; exact hi) h)
        rw [hol, hhl] at HNO
        rw [hol, hhl, List.length_map] at HVA
        have HM := Lib.hid (fun k (hk : k < hs.length) => nthR_map hs hk)
        clear hol hhl hlen hKs f2 c2 c3 d0 d1' hBW
        have HC := Lib.hid (fun (wx : World) (h : Below W.heap.size W wx) => (show wx.cell? ⟨w.heap.size, 0, none⟩ = some (.slice o.a o.r.length o.c) ∧ wx.cell? ⟨w.heap.size, 1, none⟩ = some (.slice ah hs.length ch) ∧ wx.cell? ⟨w.heap.size + 1, 0, none⟩ = some (.bool false) ∧ wx.frozen? ⟨w.heap.size + 1, 0, none⟩ = false from
          ⟨by simpa using (b1.then_ h).cell 0, by simpa using (b1.then_ h).cell 1, by simpa using (b2.then_ h).cell 0, (b2.then_ h).frozen 0⟩))
        go_loopw [5, 6, 8, 28] (fun _ _ _ i wr => ∃ k : Nat, k ≤ hs.length ∧ i = .int .i64 k ∧ Hid (∀ i, i < k → holeOK o.r (hs.map RV.r) i = true) ∧ Below W.heap.size W wr) (fun _ _ _ i _ => hs.length - (intOf i).toNat)
        case atStart => exact ⟨0, by omega, rfl, Lib.hid (fun i hi => by omega), Below.refl _ _⟩
        case round =>
          obtain ⟨k, hk, rfl, HT, hbr⟩ := hrel
          by_cases hlt : k < hs.length
          · obtain ⟨bb, off, rfl, hbb, p0⟩ := H.h k hlt
            have hbw := hb.trans (hbr.mono hb.size)
            replace p0 := (hbw.cell (p := ⟨bb, _, none⟩) hbb).trans p0
            have hx := H.v _ (List.mem_cons_of_mem _ (getD_mem hs hlt))
            have HMk := HM.out k hlt
            obtain ⟨d0, d1', e1, e2⟩ := HC.out _ hbr
            have hbbr : bb < wr.heap.size := Nat.lt_of_lt_of_le hbb hbw.size
            obtain ⟨⟨xa, xc, xr⟩, hz⟩ : ∃ z, z = hs.getD k default := ⟨_, rfl⟩
            rw [← hz] at p0 hx HMk
            dsimp only [RV.enc] at p0 hx HMk
            clear hz
            have HNK := Lib.hid (HNO.out k hlt)
            cases h1 : Geo.allP xr o.r 2 with
            | false =>
              have HV := Lib.hid (HNK.out (holeOK_no1 (by rw [HMk]; exact h1)))
              clear HNK HMk
              go_wp2_with fail
              refine (all_any xa xc xr o.a o.c o.r 2 _ (ho.1.below hbw) ho.2 (hx.1.below hbw) hx.2).mono ?_
              rintro e w1 ⟨rfl, hb1⟩
              rw [h1]
              have hbX := hbr.trans (hb1.mono hbr.size)
              clear d0 d1' e1 e2 p0 hb1
              obtain ⟨d0, d1', e1, e2⟩ := HC.out _ hbX
              go_wp2
              exact post55 rfl (by simpa using (b2.then_ hbX).set_ 0 (.bool false)) (hKX _ hbX) ⟨by rw [HV.out], ((hb.trans (hbX.mono hb.size)).setCell (p := ⟨w.heap.size + 1, 0, none⟩) (by simp) _).trans (below_mark (by omega) (hKX _ hbX))⟩
            | true =>
              go_wp2_with fail
              refine (all_any xa xc xr o.a o.c o.r 2 _ (ho.1.below hbw) ho.2 (hx.1.below hbw) hx.2).mono ?_
              rintro e w1 ⟨rfl, hb1⟩
              rw [h1]
              have hbY := hbr.trans (hb1.mono hbr.size)
              have hbv := hbw.trans (hb1.mono hbw.size)
              clear d0 d1' e1 e2 hb1 p0 hbr hbw
              obtain ⟨d0, d1', e1, e2⟩ := HC.out _ hbY
              cases h2 : Geo.apartP xr o.r with
              | false =>
                have HV := Lib.hid (HNK.out (holeOK_no2 (by rw [HMk]; exact h2)))
                clear HNK HMk
                go_wp2_with fail
                refine (apart_any xa xc xr o.a o.c o.r _ (hx.1.below hbv) (ho.1.below hbv) hx.2 ho.2).mono ?_
                rintro e w2 ⟨rfl, hb2⟩
                rw [h2]
                have hbX := hbY.trans (hb2.mono hbY.size)
                clear d0 d1' e1 e2 hb2
                obtain ⟨d0, d1', e1, e2⟩ := HC.out _ hbX
                go_wp2
                exact post55 rfl (by simpa using (b2.then_ hbX).set_ 0 (.bool false)) (hKX _ hbX) ⟨by rw [HV.out], ((hb.trans (hbX.mono hb.size)).setCell (p := ⟨w.heap.size + 1, 0, none⟩) (by simp) _).trans (below_mark (by omega) (hKX _ hbX))⟩
              | true =>
                go_wp2_with fail
                refine (apart_any xa xc xr o.a o.c o.r _ (hx.1.below hbv) (ho.1.below hbv) hx.2 ho.2).mono ?_
                rintro e w2 ⟨rfl, hb2⟩
                rw [h2]
                have hbX := hbY.trans (hb2.mono hbY.size)
                clear d0 d1' e1 e2 hb2 hbY hbv hbbr
                obtain ⟨d0, d1', e1, e2⟩ := HC.out _ hbX
                have hkc : k ≤ ch := by omega
                go_wp2_with fail
                clear d0 d1' e1 e2 HNO
                have hbv2 := hb.trans (hbX.mono hb.size)
                go_loopw [8, 50] (fun _ i wr => ∃ q : Nat, q ≤ k ∧ i = .int .i64 q ∧ Hid (∀ i, i < q → pairH (hs.map RV.r) k i = true) ∧ Below W.heap.size W wr) (fun _ i _ => k - (intOf i).toNat)
                case atStart => exact ⟨0, by omega, rfl, Lib.hid (fun i hi => by omega), hbX⟩
                case round =>
                  obtain ⟨q, hq, rfl, HQ, hbq⟩ := hrel
                  by_cases hlq : q < k
                  · have hqs : q < hs.length := by omega
                    obtain ⟨bb', off', he, hbb', p0⟩ := H.h q hqs
                    simp only [Option.some.injEq, Addr.mk.injEq, and_true] at he
                    obtain ⟨rfl, rfl⟩ := he
                    have hbw := hb.trans (hbq.mono hb.size)
                    replace p0 := (hbw.cell (p := ⟨bb, _, none⟩) hbb).trans p0
                    have hy := H.v _ (List.mem_cons_of_mem _ (getD_mem hs hqs))
                    have HMq := HM.out q hqs
                    have hbbr : bb < wr.heap.size := Nat.lt_of_lt_of_le hbb hbw.size
                    obtain ⟨⟨ya, yc, yr⟩, hz⟩ : ∃ z, z = hs.getD q default := ⟨_, rfl⟩
                    rw [← hz] at p0 hy HMq
                    dsimp only [RV.enc] at p0 hy HMq
                    clear hz hbb'
                    have HNQ := Lib.hid (fun h => HNK.out (holeOK_no3 hlq h))
                    have HP : Hid (pairH (hs.map RV.r) k q = (Geo.apartP xr yr && Geo.allP xr yr 0 && Geo.allP yr xr 0)) := Lib.hid (by unfold pairH; rw [HMk, HMq])
                    cases h3 : Geo.apartP xr yr with
                    | false =>
                      have HV := Lib.hid (HNQ.out (by rw [HP.out, h3]; rfl))
                      go_wp2_with fail
                      refine (apart_any xa xc xr ya yc yr _ (hx.1.below hbw) (hy.1.below hbw) hx.2 hy.2).mono ?_
                      rintro e w3 ⟨rfl, hbw3⟩
                      rw [h3]
                      have hbz := hbq.trans (hbw3.mono hbq.size)
                      have hbv3 := hbw.trans (hbw3.mono hbw.size)
                      clear hbw3
                      obtain ⟨d0, d1', e1, e2⟩ := HC.out _ hbz
                      go_wp2
                      exact post55 rfl (by simpa using (b2.then_ hbz).set_ 0 (.bool false)) (hKX _ hbz) ⟨by rw [HV.out], ((hb.trans (hbz.mono hb.size)).setCell (p := ⟨w.heap.size + 1, 0, none⟩) (by simp) _).trans (below_mark (by omega) (hKX _ hbz))⟩
                    | true =>
                      go_wp2_with fail
                      refine (apart_any xa xc xr ya yc yr _ (hx.1.below hbw) (hy.1.below hbw) hx.2 hy.2).mono ?_
                      rintro e w3 ⟨rfl, hbw3⟩
                      rw [h3]
                      have hbz := hbq.trans (hbw3.mono hbq.size)
                      have hbv3 := hbw.trans (hbw3.mono hbw.size)
                      clear hbw3
                      clear p0 hbw
                      cases h4 : Geo.allP xr yr 0 with
                      | false =>
                        have HV := Lib.hid (HNQ.out (by rw [HP.out, h3, h4]; rfl))
                        go_wp2_with fail
                        refine (all_any xa xc xr ya yc yr 0 _ (hy.1.below hbv3) hy.2 (hx.1.below hbv3) hx.2).mono ?_
                        rintro e w4 ⟨rfl, hbw4⟩
                        rw [h4]
                        have hbz4 := hbz.trans (hbw4.mono hbz.size)
                        have hbv4 := hbv3.trans (hbw4.mono hbv3.size)
                        clear hbw4
                        obtain ⟨d0, d1', e1, e2⟩ := HC.out _ hbz4
                        go_wp2
                        exact post55 rfl (by simpa using (b2.then_ hbz4).set_ 0 (.bool false)) (hKX _ hbz4) ⟨by rw [HV.out], ((hb.trans (hbz4.mono hb.size)).setCell (p := ⟨w.heap.size + 1, 0, none⟩) (by simp) _).trans (below_mark (by omega) (hKX _ hbz4))⟩
                      | true =>
                        go_wp2_with fail
                        refine (all_any xa xc xr ya yc yr 0 _ (hy.1.below hbv3) hy.2 (hx.1.below hbv3) hx.2).mono ?_
                        rintro e w4 ⟨rfl, hbw4⟩
                        rw [h4]
                        have hbz4 := hbz.trans (hbw4.mono hbz.size)
                        have hbv4 := hbv3.trans (hbw4.mono hbv3.size)
                        clear hbw4
                        clear hbv3
                        cases h5 : Geo.allP yr xr 0 with
                        | false =>
                          have HV := Lib.hid (HNQ.out (by rw [HP.out, h3, h4, h5]; rfl))
                          go_wp2_with fail
                          refine (all_any ya yc yr xa xc xr 0 _ (hx.1.below hbv4) hx.2 (hy.1.below hbv4) hy.2).mono ?_
                          rintro e w5 ⟨rfl, hbw5⟩
                          rw [h5]
                          have hbz5 := hbz4.trans (hbw5.mono hbz4.size)
                          have hbv5 := hbv4.trans (hbw5.mono hbv4.size)
                          clear hbw5
                          obtain ⟨d0, d1', e1, e2⟩ := HC.out _ hbz5
                          go_wp2
                          exact post55 rfl (by simpa using (b2.then_ hbz5).set_ 0 (.bool false)) (hKX _ hbz5) ⟨by rw [HV.out], ((hb.trans (hbz5.mono hb.size)).setCell (p := ⟨w.heap.size + 1, 0, none⟩) (by simp) _).trans (below_mark (by omega) (hKX _ hbz5))⟩
                        | true =>
                          have HQ2 : Hid (∀ i, i < q + 1 → pairH (hs.map RV.r) k i = true) := Lib.hid (fun i hi => by
                            by_cases e : i = q
                            · subst e; rw [HP.out, h3, h4, h5]; rfl
                            · exact HQ.out i (by omega))
                          go_wp2_with fail
                          refine (all_any ya yc yr xa xc xr 0 _ (hx.1.below hbv4) hx.2 (hy.1.below hbv4) hy.2).mono ?_
                          rintro e w5 ⟨rfl, hbw5⟩
                          rw [h5]
                          have hbz5 := hbz4.trans (hbw5.mono hbz4.size)
                          have hbv5 := hbv4.trans (hbw5.mono hbv4.size)
                          clear hbw5
                          go_wp2
                          go_roundw
                          case rel => exact ⟨q + 1, by omega, by go_num, HQ2, hbz5⟩
                          case measure => simp [intOf]; omega
                  · have HT2 : Hid (∀ i, i < k + 1 → holeOK o.r (hs.map RV.r) i = true) := Lib.hid (fun i hi => by
                      by_cases e : i = k
                      · subst e; exact holeOK_of (by rw [HMk]; exact h1) (by rw [HMk]; exact h2) (fun j hj => HQ.out j (by omega))
                      · exact HT.out i (by omega))
                    go_wp2
                    go_roundw
                    case rel => exact ⟨k + 1, by omega, by go_num, HT2, hbq⟩
                    case measure => simp [intOf]; omega
          · have HV := Lib.hid (HVA.out (fun i hi => HT.out i (by omega)))
            obtain ⟨d0, d1', e1, e2⟩ := HC.out _ hbr
            go_wp2
            exact post55 rfl (by simpa using (b2.then_ hbr).set_ 0 (.bool true)) (hKT _ hbr) ⟨by rw [HV.out], ((hb.trans (hbr.mono hb.size)).setCell (p := ⟨w.heap.size + 1, 0, none⟩) (by simp) _).trans (below_mark (by omega) (hKT _ hbr))⟩
end Go.Proofs.YtdaeofhdgabhjaaGreat
namespace Go.Proofs.YtdaeofhdgabhjaaGreat
open Go.RowKit Go.Shelf
attribute [local go_sem] Oper.semAt_some
theorem ownsRow_own {W W' : World} {base : Nat} {e : TypeId} {size : Nat} {v : Value} {n : Nat} {xs : List Value} {row : Option Nat} (h : W.ownsRow base e size v n xs) (hg : W.grownBy W' row) (hr : ∀ r, row = some r → ∃ o : Obj, W.heap[r]? = some o ∧ o.isCells = false) : W'.ownsRow base e size v n xs :=
  ⟨h.1, h.2.imp id fun ⟨g, cap, cur, h1, h2, h3, h4⟩ => ⟨g, cap, cur, h1, h2, (hg.block g (Array.getElem?_eq_some_iff.1 h3).1 (fun e => by
    obtain ⟨o, ho, hc⟩ := hr g e.symm
    rw [h3] at ho; cases ho; cases hc)).trans h3, h4⟩⟩
theorem row_own {β : Type} {B bx base : Nat} {t : TypeId} {e : TypeId} {size : Nat} {n : β → Nat} {xs : β → List Value} : OwnFrom B (fun (s : β) W => ∃ v, Blk W bx t #[v] ∧ W.ownsRow base e size v (n s) (xs s)) := fun s W W' row ⟨v, h1, h2⟩ hg hr =>
  ⟨v, blk_own (cs := fun _ : β => #[v]) s W W' row h1 hg hr, ownsRow_own h2 hg (fun r e => (hr r e).2)⟩
theorem ownsRow_mark {W : World} {D base : Nat} {e : TypeId} {size : Nat} {v : Value} {n : Nat} {xs : List Value} (h : W.ownsRow base e size v n xs) (hK : W.heap[D]? = some (.deferred (some []))) (o' : Obj) : (W.putObj D o').ownsRow base e size v n xs :=
  ownsRow_own h (grownBy_putObj' W D o') (fun r e => by cases e; exact ⟨_, hK, rfl⟩)
theorem app_keeps {W W' : World} {base : Nat} {e : TypeId} {size : Nat} {v : Value} {n : Nat} {xs : List Value} (h : W.ownsRow base e size v n xs) (hg : W.grownBy W' v.ownBlock) : KeepsOthers W W' :=
  KeepsOthers.of_grownBy hg (fun j o hj ho => by
    rcases h.2 with ⟨h1, h2⟩ | ⟨g, cap, cur, h1, h2, h3, h4⟩
    · rw [h1] at hj; simp [Value.ownBlock] at hj
    · rw [h1] at hj; simp [Value.ownBlock] at hj; subst hj; rw [h3] at ho; cases ho; rfl)
theorem postM_tmp {F : Fence} {n : Nat} {P : Program} {fn : Func} {R : Ending → World → Prop} {W : World} {D : Nat} {T : Array Value} {t : Tmp} {v : Value} (hf : fn.results = #[.tmp t]) (hT : T.getD t undef = v) (hK : W.heap[D]? = some (.deferred (some [])))
    (hR : R (.returned v) (W.putObj D (.deferred none))) : bodyPostM F n P fn R .ret { tmps := T, defers := [{ target := .collected D, args := #[] }] } W := by
  refine postM_retD (v := v) rfl hK ?_ hR
  rw [← hT]
  simp [results, hf]
theorem flatG_one (xs : List Geo.S) : ∀ u ∈ flatG xs, u.oneCell' = true := by
  intro u hu
  obtain ⟨v, _, hv⟩ := List.mem_flatMap.1 hu
  simp only [List.mem_cons, List.not_mem_nil, or_false] at hv
  rcases hv with rfl | rfl | rfl | rfl <;> rfl
theorem Rd.grown {w w' : World} {a : Option Addr} {cs : List Value} {row : Option Nat} {m : Nat} (h : Rd w a cs) (hF : Fresh m a) (hr : ∀ k, row = some k → k < m) (hg : w.grownBy w' row) : Rd w' a cs := by
  intro i u hi
  obtain ⟨b, off, rfl, hb, hc⟩ := h i u hi
  have hm : m ≤ b := hF _ rfl
  refine ⟨b, off, rfl, Nat.lt_of_lt_of_le hb hg.size, (World.cell?_of_block (a := ⟨b, off + i, none⟩) (hg.block b hb ?_)).trans hc⟩
  intro e
  have := hr b e.symm
  omega
theorem Rd.set_ {w : World} {a : Option Addr} {cs : List Value} {m : Nat} {p : Addr} {u : Value} (h : Rd w a cs) (hF : Fresh m a) (hp : p.block < m) : Rd (w.setCell p u) a cs := by
  intro i v hi
  obtain ⟨b, off, rfl, hb, hc⟩ := h i v hi
  have hm : m ≤ b := hF _ rfl
  exact ⟨b, off, rfl, by simpa using hb, (World.cell?_of_block (a := ⟨b, off + i, none⟩) (Below.heap_setCell w p u b (by omega))).trans hc⟩
theorem ownsRow_set {W : World} {base : Nat} {e : TypeId} {size : Nat} {v : Value} {n : Nat} {xs : List Value} {p : Addr} {u : Value} (h : W.ownsRow base e size v n xs) (hp : p.block < base) : (W.setCell p u).ownsRow base e size v n xs :=
  ⟨h.1, h.2.imp id fun ⟨g, cap, cur, h1, h2, h3, h4⟩ => ⟨g, cap, cur, h1, h2, (Below.heap_setCell W p u g (by omega)).trans h3, h4⟩⟩
abbrev Mem (o : RV) (hs : List RV) := { x : RV // x ∈ o :: hs }
def edgesOf {o : RV} {hs : List RV} (pre : List (Mem o hs)) : List Geo.S := pre.flatMap fun x => Geo.edges x.1.r
theorem edgesOf_snoc {o : RV} {hs : List RV} (pre : List (Mem o hs)) (x : Mem o hs) : edgesOf (pre ++ [x]) = edgesOf pre ++ Geo.edges x.1.r := by unfold edgesOf; simp
theorem edgesOf_le {o : RV} {hs : List RV} (h : ∀ x ∈ o :: hs, x.r.length ≤ 1000) (pre : List (Mem o hs)) : (edgesOf pre).length ≤ 1000 * pre.length := by
  induction pre with
  | nil => simp [edgesOf]
  | cons x l ih =>
    have h1 := h x.1 x.2
    have h2 := edges_le x.1.r
    unfold edgesOf at *
    simp only [List.flatMap_cons, List.length_append, List.length_cons]
    omega
theorem edgesOf_all {o : RV} {hs : List RV} {xs : List (Mem o hs)} (h : xs.map (·.1) = o :: hs) : edgesOf xs = Geo.edgesS (geoS o hs) := by
  have e : edgesOf xs = (xs.map (·.1)).flatMap fun x => Geo.edges x.r := by unfold edgesOf; rw [List.flatMap_map]
  rw [e, h]
  unfold Geo.edgesS Geo.ringsS geoS
  simp [List.flatMap_cons, List.flatMap_map]
set_option maxRecDepth 100000 in
set_option maxHeartbeats 2000000 in
theorem shapeEdges_any (o : RV) (ah : Option Addr) (ch : Nat) (hs : List RV) (w : World) (H : RdSh w o ah hs) (hn : hs.length ≤ 900) :
    Calls Tryz.prog 131 #[.agg #[RV.enc o, .slice ah hs.length ch]] w fun e w' => ∃ v, e = .returned v ∧ w'.ownsRow w.heap.size 46 4 v (Geo.edgesS (geoS o hs)).length (flatG (Geo.edgesS (geoS o hs))) ∧ Below w.heap.size w w' := by
  refine (callsIn_wide (n := 9)).1 (callsIn_of_wp_marks Tryz.func131 rfl trivial ((wpIn_wide (n := 9)).2 ?_) rfl)
  simp only [Tryz.ntmps131, List.size_toArray, List.length_cons, List.length_nil, Nat.reduceAdd, Nat.reduceSub, Array.replicate_succ, Array.replicate_zero, List.push_toArray, List.append_toArray, List.nil_append, List.cons_append]
  dsimp only [RV.enc]
  go_wp2_with fail
  refine (rings_any o ah hs.length ch _).mono ?_
  rintro e w1 ⟨rfl, rfl⟩
  go_wp2_with fail
  have B3 := (Blk.new (w.alloc (.cells #[.slice o.a o.r.length o.c, .slice ah hs.length ch] 26)) 32 #[.slice none 0 0]).alloc (.cells #[RV.enc o, .slice ah hs.length ch] 26)
  have B4 := Blk.new ((w.alloc (.cells #[.slice o.a o.r.length o.c, .slice ah hs.length ch] 26)).alloc (.cells #[.slice none 0 0] 32)) 26 #[RV.enc o, .slice ah hs.length ch]
  have hBW : Below w.heap.size w ((((w.alloc (.cells #[.slice o.a o.r.length o.c, .slice ah hs.length ch] 26)).alloc (.cells #[.slice none 0 0] 32))).alloc (.cells #[RV.enc o, .slice ah hs.length ch] 26)) := (((Below.refl _ _).alloc (Nat.le_refl _) _).alloc (by simp) _).alloc (by simp; omega) _
  have hs0 : w.heap.size + 3 = ((((w.alloc (.cells #[.slice o.a o.r.length o.c, .slice ah hs.length ch] 26)).alloc (.cells #[.slice none 0 0] 32))).alloc (.cells #[RV.enc o, .slice ah hs.length ch] 26)).heap.size := by simp
  simp only [World.size_alloc] at B3 B4
  generalize (((w.alloc (.cells #[.slice o.a o.r.length o.c, .slice ah hs.length ch] 26)).alloc (.cells #[.slice none 0 0] 32))).alloc (.cells #[RV.enc o, .slice ah hs.length ch] 26) = W0 at B3 B4 hBW hs0 ⊢
  refine (wpIn_wide (n := 9)).1 ?_
  refine' wpIn_rangeFunc_ownF (F := Fence.wide) (n := 9) rfl (by omega) (gf := 179) (lb := #[.pointer (some ⟨w.heap.size + 1 + 1, 0, none⟩)]) rfl trivial (enters_of Tryz.func179 (by kernel_rfl) rfl)
    (rings1_stops Fence.wide 8 trivial rfl (by omega) (w.heap.size + 1 + 1) w.heap.size o ah ch hs H.n W0 (by omega) B4 (H.h.below hBW)) Kp2.trans (kp2_b (by omega) (by omega)) (Below.refl _ _) (fun _ => rfl)
    (fun pre W => (Blk W (w.heap.size + 1 + 1) 26 #[RV.enc o, .slice ah hs.length ch] ∧ ∃ v, Blk W (w.heap.size + 1) 32 #[v] ∧ W.ownsRow (w.heap.size + 3) 46 4 v (edgesOf pre).length (flatG (edgesOf pre))) ∧ (w.heap.size + 3 ≤ W.heap.size ∧ Below w.heap.size w W))
    (fun c pre W => False ∧ False)
    (OwnFrom.and (OwnFrom.and blk_own row_own) (OwnFrom.and (fun s A B row h hg _ => Nat.le_trans h hg.size) (ownFrom_below (Nat.le_refl _) (by omega))))
    (fun c => OwnFrom.and own_of own_of)
    ⟨⟨B4, _, B3, World.ownsRow_nil _ _ _ _⟩, by omega, hBW⟩ _ ?assign ?body ?done ?stop
  case assign =>
    intro l x W K hK
    dsimp only [RV.enc]
    gi_wp2
    exact hK
  case stop =>
    rintro D c pre W hD hpre ⟨h, _⟩ hK
    exact h.elim
  case done =>
    rintro D xs W hD hxs ⟨⟨b4, v, b3, hrow⟩, _, hb⟩ hK
    have c3 := b3.cell 0
    simp at c3
    have hD2 : w.heap.size ≤ D := by omega
    rw [edgesOf_all hxs] at hrow
    clear hxs b4 B3 B4 hBW hs0 hD b3
    go_wp2
    exact postM_tmp (v := v) rfl rfl hK ⟨v, rfl, ownsRow_base (ownsRow_mark hrow hK _) (by omega), hb.trans (below_mark hD2 hK)⟩
  case body =>
    rintro l pre ⟨⟨xa, xc, xr⟩, hxm⟩ W ⟨⟨b4, u3, b3, hrow⟩, hsz, hb⟩ hlen
    obtain ⟨hxr, hxl⟩ := H.v _ hxm
    dsimp only at hxr hxl
    have hxn : xr.length ≤ 1000 := hxl.1
    have HE : Hid (edgesOf (pre ++ [(⟨⟨xa, xc, xr⟩, hxm⟩ : Mem o hs)]) = edgesOf pre ++ Geo.edges xr) := Lib.hid (edgesOf_snoc _ _)
    have hle := edgesOf_le (fun x hx => (H.v x hx).2.1) pre
    have hle2 := edges_le xr
    have hsz2 : (edgesOf pre).length + (Geo.edges xr).length ≤ 1000000 := by omega
    rw [show (w.heap.size + 3) = w.heap.size + 3 from rfl] at hrow
    generalize edgesOf pre = E at HE hrow hsz2
    clear hle hle2 B3 B4 hBW hs0
    refine wpIn_block ?_
    dsimp only [RV.enc]
    refine wpIn_region_F (by kernel_rfl) (by kernel_rfl) [8, 9, 10, 11] [[], [], [1], [0, 1, 2], [0, 1, 2, 3]] (by kernel_rfl) (by kernel_rfl) (by intro s hs; simp at hs ⊢; omega)
      (WR3 3 4 (fun wx => Below W.heap.size W wx) (fun wx => Blk wx (w.heap.size + 1) 32 #[u3] ∧ Blk wx (w.heap.size + 1 + 1) 26 #[RV.enc o, .slice ah hs.length ch] ∧ Below w.heap.size w wx ∧ KeepsOthers W wx ∧ Below w.heap.size W wx ∧ w.heap.size + 3 ≤ wx.heap.size) (fun wx => ∃ v, Blk wx (w.heap.size + 1) 32 #[v] ∧ wx.ownsRow (w.heap.size + 3) 46 4 v (E.length + (Geo.edges xr).length) (flatG (E ++ Geo.edges xr)) ∧ Blk wx (w.heap.size + 1 + 1) 26 #[RV.enc o, .slice ah hs.length ch] ∧ Below w.heap.size w wx ∧ KeepsOthers W wx ∧ Below w.heap.size W wx ∧ w.heap.size + 3 ≤ wx.heap.size))
      (fun i v wx => match i with
        | 0 => v = u3
        | 1 => v = .slice xa xr.length xc
        | 2 => ∃ a c, v = .slice a (Geo.edges xr).length c ∧ Rd wx a (flatG (Geo.edges xr)) ∧ (a = none → c = 0) ∧ Fresh W.heap.size a
        | 3 => wx.ownsRow (w.heap.size + 3) 46 4 v (E.length + (Geo.edges xr).length) (flatG (E ++ Geo.edges xr))
        | 4 => True
        | _ => True)
      (WR3.start (Below.refl _ _).drew) ?_ ?_ ?_
    · intro j v wx wy hf hxy
      match j with
      | 0 => exact hf
      | 1 => exact hf
      | 2 => obtain ⟨a, c, h1, h2, h3⟩ := hf; exact ⟨a, c, h1, h2.below hxy, h3⟩
      | 3 => exact ownsRow_then hf hxy
      | 4 => exact hf
      | _ + 5 => exact trivial
    · refine ⟨?_, ?_, ?_, ?_, ?_, trivial⟩
      · intro D V wx hD hanc hdesc hin hWR
        have hA := hWR.lo (hdesc 3 (by kernel_rfl)) (hdesc 4 (by kernel_rfl))
        have e3 := hin 3 (by kernel_rfl)
        simp at e3
        have q0 := (Blk.then_ b3 hA).cell 0
        simp at q0
        refine opK ?_
        intro K hK
        simp [opRun, execOp, evalV, e3, q0, go_sem]
        exact hK _ _ ⟨rfl, (hWR.keep (by decide) (by decide)), .inl rfl⟩
      · intro D V wx hD hanc hdesc hin hWR
        have hA := hWR.lo (hdesc 3 (by kernel_rfl)) (hdesc 4 (by kernel_rfl))
        have e4 := hin 4 (by kernel_rfl)
        simp at e4
        refine opK ?_
        intro K hK
        simp [opRun, execOp, evalV, e4, go_sem]
        exact hK _ _ ⟨rfl, (hWR.keep (by decide) (by decide)), .inl rfl⟩
      · intro D V wx hD hanc hdesc hin hWR
        have hA := hWR.lo (hdesc 3 (by kernel_rfl)) (hdesc 4 (by kernel_rfl))
        have e9 : V 9 = .slice xa xr.length xc := (hanc 1 (by kernel_rfl)).2
        refine opK ?_
        intro K hK
        simp [opRun, execOp, evalV, e9, go_sem]
        refine (edges_any xa xc xr _ (hxr.below (hb.trans (hA.mono hb.size))) hxl).mono ?_
        rintro e w1 ⟨a, c, rfl, hR, hF, hN, hc⟩
        exact ⟨_, rfl, hK _ _ ⟨⟨a, c, rfl, hR, hN, hF.mono hA.size⟩, (.mkLo (hdesc 3 (by kernel_rfl)) (hdesc 4 (by kernel_rfl)) (by decide) (by decide) (Below.then_ hA hc)), .inr (.inl hc)⟩⟩
      · intro D V wx hD hanc hdesc hin hWR
        have hA := hWR.lo hD (hdesc 4 (by kernel_rfl))
        have e8 : V 8 = u3 := (hanc 0 (by kernel_rfl)).2
        have e10 := (hanc 2 (by kernel_rfl)).2
        refine opK ?_
        intro K hK
        obtain ⟨a, c, e10, hR, hN, hF⟩ := e10
        have e10 : V 10 = _ := e10
        refine opRun_app (.tmp 8) (.tmp 10) 32 rfl (w.heap.size + 3) 46 (.agg #[.int .i64 0, .int .i64 0, .int .i64 0, .int .i64 0]) 4 32 Tryz.underlying32 (by kernel_rfl) rfl (by decide) u3 _ _ e8 (ownsRow_then hrow hA) _ _ _ (flatG (Geo.edges xr)) e10 (flatG_length _) hR hN (flatG_one _) (by omega) (by omega) (by have := hA.size; omega) ?_
        intro v' w' h1 h2 h3 h4
        have hbx := (Blk.then_ b3 hA)
        have hbr := (Blk.then_ b4 hA)
        have hro := ownsRow_then hrow hA
        refine hK _ _ ⟨by rw [flatG_append]; exact h1, .mkMid (hdesc 4 (by kernel_rfl)) (by decide) ⟨grownBy_blk h3 hbx (row_near hro (by omega)), grownBy_blk h3 hbr (row_near hro (by omega)), (hb.trans (hA.mono hb.size)).trans (h2.mono (by omega)), (keeps_below hA).trans (app_keeps hro h3), ((Below.refl w.heap.size W).trans (hA.mono hb.size)).trans (h2.mono (by omega)), by have := hA.size; have := h2.size; omega⟩, .inr (.inr ?_)⟩
        intro j hj hf
        match j with
        | 0 => exact hf
        | 1 => exact hf
        | 2 => obtain ⟨a, c, g1, g2, g3, g4⟩ := hf; exact ⟨a, c, g1, g2.grown g4 (fun k hk => (ownsRow_block hrow k hk).2) h3, g3, g4⟩
        | 3 => exact absurd (hj.symm.trans hD) (by decide)
        | 4 => exact absurd (hj.symm.trans (hdesc 4 (by kernel_rfl))) (by decide)
        | _ + 5 => exact trivial
      · intro D V wx hD hanc hdesc hin hWR
        have hB := hWR.mid (hanc 3 (by kernel_rfl)).1 hD
        have e3 := hin 3 (by kernel_rfl)
        simp at e3
        have e11 := (hanc 3 (by kernel_rfl)).2
        refine opK ?_
        intro K hK
        have q0 := hB.1.cell 0
        have f0 := hB.1.frozen 0
        simp at q0
        have e11 : wx.ownsRow (w.heap.size + 3) 46 4 (V 11) (E.length + (Geo.edges xr).length) (flatG (E ++ Geo.edges xr)) := e11
        have e3 : V 3 = _ := e3
        obtain ⟨ra, rc, hv11, _, _, _⟩ := Rd.of_row e11
        rw [hv11] at e11
        simp [opRun, execOp, evalV, e3, hv11, q0, f0, go_sem]
        refine hK _ _ ⟨trivial, .mkHi ⟨_, by simpa using hB.1.set_ 0 (.slice ra (E.length + (Geo.edges xr).length) rc), ownsRow_set e11 (by show w.heap.size + 1 < w.heap.size + 3; omega), hB.2.1.far (by simp) _, hB.2.2.1.setCell (p := ⟨w.heap.size + 1, 0, none⟩) (by simp) _, hB.2.2.2.1.trans (KeepsOthers.setCell _ _ _), hB.2.2.2.2.1.setCell (p := ⟨w.heap.size + 1, 0, none⟩) (by simp) _, by simpa using hB.2.2.2.2.2⟩, .inr (.inr ?_)⟩
        intro j hj hf
        match j with
        | 0 => exact hf
        | 1 => exact hf
        | 2 => obtain ⟨a, c, g1, g2, g3, g4⟩ := hf; exact ⟨a, c, g1, g2.set_ g4 b3.lt, g3, g4⟩
        | 3 => exact ownsRow_set hf (by show w.heap.size + 1 < _; omega)
        | 4 => exact absurd (hj.symm.trans hD) (by decide)
        | _ + 5 => exact trivial
    intro D V wx hall hf hWR
    replace hWR := hWR.hi (hall 4 (by decide))
    have f0 : V 8 = u3 := hf 0 (by decide)
    have f1 : V 9 = .slice xa xr.length xc := hf 1 (by decide)
    have f2 := hf 2 (by decide)
    have f3 := hf 3 (by decide)
    clear hf hall
    simp only [putAll, List.foldl_cons, List.foldl_nil, f0, f1]
    simp only [Act.put, List.setIfInBounds_toArray, List.set_cons_succ, List.set_cons_zero]
    clear f0 f1
    obtain ⟨v', k1, k2, k3, k4, k5, k6, k7⟩ := hWR
    refine ⟨k5, ⟨k6, Eq.trans k3 (Eq.symm b4)⟩, ⟨k3, v', k1, ?_⟩, k7, k4⟩
    rw [HE.out, List.length_append]
    exact k2
end Go.Proofs.YtdaeofhdgabhjaaGreat
namespace Go.Proofs.YtdaeofhdgabhjaaGreat
open Go.RowKit Go.Shelf
set_option maxRecDepth 100000
attribute [local go_sem] Oper.semAt_some
set_option maxHeartbeats 2000000 in
theorem clone_any (a : Option Addr) (c : Nat) (xs : List Geo.V) (w : World) (h : RdV w a xs) (hl : xs.length ≤ 1000) :
    Calls Tryz.prog 125 #[.slice a xs.length c] w fun e w' => ∃ a' c', e = .returned (.slice a' xs.length c') ∧ Rd w' a' (flatV xs) ∧ Fresh w.heap.size a' ∧ (a' = none → c' = 0) ∧ xs.length ≤ c' ∧ Below w.heap.size w w' := by
  have hq : ∀ (w : World) (a : Option Addr) (n c n' c' : Nat), (binOp .eql 23 (.slice a n c) (.slice none n' c')).run Tryz.prog w = .ok (.bool a.isNone) w := fun w a n c n' c' => Lib.run_eql_slice_nil w _ _ a n c n' c' Tryz.underlying23
  cases a with
  | none =>
    have h0 : xs.length = 0 := by
      rcases Nat.eq_zero_or_pos xs.length with h0 | h0
      · exact h0
      · obtain ⟨b, off, he, _⟩ := h 0 h0; cases he
    have hx : xs = [] := List.length_eq_zero_iff.1 h0
    subst hx
    go_enter Tryz.func125, Tryz.ntmps125
    go_wp2
    go_ret
    exact ⟨none, 0, rfl, (fun i u hi => by simp [flatV] at hi), (fun b hb => by cases hb), (fun _ => rfl), Nat.le_refl _, Below.refl _ _⟩
  | some ad =>
    go_enter Tryz.func125, Tryz.ntmps125
    go_upto_region 3 with fail
    refine wp_region_F0 [2, 5, 6, 7] [[], [], [0, 1], [0, 1, 2]] (by kernel_rfl) (by kernel_rfl) (by intro s hs; simp at hs ⊢; omega)
      (WR3 0 2 (fun wx => wx = w) (fun wx => Blk wx w.heap.size 44 #[] ∧ Below w.heap.size w wx) (fun wx => Below w.heap.size w wx))
      (fun i v wx => match i with
        | 0 => v = .slice (some ⟨w.heap.size, 0, none⟩) 0 0
        | 1 => v = .slice (some ad) xs.length c
        | 2 => wx.ownsRow w.heap.size 44 2 v (0 + xs.length) ([] ++ flatV xs)
        | 3 => wx.ownsRow w.heap.size 44 2 v xs.length (flatV xs)
        | _ => True)
      (WR3.start rfl) ?_ ?_ ?_
    · intro j v wx wy hf hxy
      match j with
      | 0 => exact hf
      | 1 => exact hf
      | 2 => exact ownsRow_then hf hxy
      | 3 => exact ownsRow_then hf hxy
      | _ + 4 => exact trivial
    · refine ⟨?_, ?_, ?_, ?_, trivial⟩
      · intro D V wx hD hanc hdesc hin hWR
        have hA := hWR.lo hD (hdesc 2 (by kernel_rfl))
        rw [hA]
        refine opK ?_
        intro K hK
        simp [opRun, execOp, evalV, go_sem]
        exact hK _ _ ⟨rfl, .mkMid (hdesc 2 (by kernel_rfl)) (by decide) ⟨Blk.new _ _ _, (Below.refl _ _).alloc (Nat.le_refl _) _⟩, .inr (.inl ((Below.refl _ _).alloc (Nat.le_refl _) _))⟩
      · intro D V wx hD hanc hdesc hin hWR
        have e0 := hin 0 (by kernel_rfl)
        simp at e0
        refine opK ?_
        intro K hK
        simp [opRun, execOp, evalV, e0, go_sem]
        exact hK _ _ ⟨rfl, (hWR.keep (by decide) (by decide)), .inl rfl⟩
      · intro D V wx hD hanc hdesc hin hWR
        have hB := hWR.mid (hanc 0 (by kernel_rfl)).1 hD
        have e5 : V 5 = .slice (some ⟨w.heap.size, 0, none⟩) 0 0 := (hanc 0 (by kernel_rfl)).2
        have e6 : V 6 = .slice (some ad) xs.length c := (hanc 1 (by kernel_rfl)).2
        refine opK ?_
        intro K hK
        have hrow : wx.ownsRow w.heap.size 44 2 (.slice (some ⟨w.heap.size, 0, none⟩) 0 0) 0 [] := ⟨rfl, .inr ⟨_, 0, #[], rfl, Nat.le_refl _, hB.1, Nat.le_refl _, by simp, by simp, by simp⟩⟩
        refine opRun_app (.tmp 5) (.tmp 6) 23 rfl w.heap.size 44 (.agg #[.int .i64 0, .int .i64 0]) 2 16 Tryz.underlying23 (by kernel_rfl) rfl (by decide) _ _ _ e5 hrow _ _ _ (flatV xs) e6 (flatV_length _) (h.below hB.2).rd (fun h => by cases h) (flatV_one _) (by omega) (by omega) hB.2.size ?_
        intro v' w' h1 h2 h3 h4
        refine hK _ _ ⟨h1, .mkHi (hB.2.trans h2), .inr (.inr ?_)⟩
        intro j hj hf
        match j with
        | 0 => exact hf
        | 1 => exact hf
        | 2 => exact absurd (hj.symm.trans hD) (by decide)
        | 3 => exact absurd (hj.symm.trans (hdesc 3 (by kernel_rfl))) (by decide)
        | _ + 4 => exact trivial
      · intro D V wx hD hanc hdesc hin hWR
        have e7 := (hanc 2 (by kernel_rfl)).2
        refine opK ?_
        intro K hK
        simp [opRun, execOp, evalV, go_sem]
        rw [Nat.zero_add, List.nil_append] at e7
        exact hK _ _ ⟨e7, (hWR.keep (by decide) (by decide)), .inl rfl⟩
    intro D V wx hall hf hWR
    replace hWR := hWR.hi (hall 2 (by decide))
    have f0 : V 5 = .slice (some ⟨w.heap.size, 0, none⟩) 0 0 := hf 0 (by decide)
    have f1 : V 6 = .slice (some ad) xs.length c := hf 1 (by decide)
    have f2 := hf 2 (by decide)
    have f3 := hf 3 (by decide)
    clear hf hall
    simp only [putAll, List.foldl_cons, List.foldl_nil, f0, f1]
    simp only [Act.put, List.setIfInBounds_toArray, List.set_cons_succ, List.set_cons_zero]
    clear f0 f1
    go_wp2
    go_ret
    obtain ⟨a', c', hv, k1, k2, k3, k4⟩ := Rd.of_row' f3
    have hv : V 2 = _ := hv
    exact ⟨a', c', by simp [hv], k1, k2, k3, k4, hWR⟩
theorem RdV.grown {w w' : World} {a : Option Addr} {xs : List Geo.V} {row : Option Nat} (h : RdV w a xs) (hr : 0 < xs.length → ∀ b, a = some b → row ≠ some b.block) (hg : w.grownBy w' row) : RdV w' a xs := by
  intro i hi
  obtain ⟨b, off, rfl, hb, h0, h1⟩ := h i hi
  have e := hg.block b hb (fun e => hr (by omega) _ rfl e.symm)
  exact ⟨b, off, rfl, Nat.lt_of_lt_of_le hb hg.size, (World.cell?_of_block (a := ⟨b, _, none⟩) e).trans h0, (World.cell?_of_block (a := ⟨b, _, none⟩) e).trans h1⟩
theorem RdV.set_ {w : World} {a : Option Addr} {xs : List Geo.V} {p : Addr} {u : Value} (h : RdV w a xs) (hp : 0 < xs.length → ∀ b, a = some b → p.block ≠ b.block) : RdV (w.setCell p u) a xs := by
  intro i hi
  obtain ⟨b, off, rfl, hb, h0, h1⟩ := h i hi
  have e := Below.heap_setCell w p u b (fun e => hp (by omega) _ rfl (by simpa using e.symm))
  exact ⟨b, off, rfl, by simpa using hb, (World.cell?_of_block (a := ⟨b, _, none⟩) e).trans h0, (World.cell?_of_block (a := ⟨b, _, none⟩) e).trans h1⟩
theorem RdV.own {W W' : World} {a : Option Addr} {xs : List Geo.V} {row : Option Nat} (h : RdV W a xs) (hg : W.grownBy W' row) (hr : ∀ r, row = some r → ∃ o : Obj, W.heap[r]? = some o ∧ o.isCells = false) : RdV W' a xs := by
  intro i hi
  obtain ⟨b, off, rfl, hb, h0, h1⟩ := h i hi
  exact ⟨b, off, rfl, Nat.lt_of_lt_of_le hb hg.size, cell_kept h0 hg hr, cell_kept h1 hg hr⟩
theorem RdV.lt {w : World} {a : Option Addr} {xs : List Geo.V} (h : RdV w a xs) (h0 : 0 < xs.length) : ∀ b, a = some b → b.block < w.heap.size := by
  intro b e
  obtain ⟨b', off, he, hb, _⟩ := h 0 h0
  rw [e] at he; cases he; exact hb
structure RingOk (base : Nat) (w : World) (v : Value) (x : RV) : Prop where
  rd : RdV w x.a x.r
  fresh : Fresh base x.a
  cap : x.r.length ≤ x.c
  len : x.r.length ≤ 1000
  sep : 0 < x.r.length → ∀ b, x.a = some b → v.ownBlock ≠ some b.block
structure Rings (base bx : Nat) (w : World) (v : Value) (rs : List RV) : Prop where
  box : Blk w bx 24 #[v]
  row : w.ownsRow base 23 1 v rs.length (rs.map RV.enc)
  ok : ∀ x ∈ rs, RingOk base w v x
theorem rings_own {β : Type} {B base bx : Nat} {p : β → List RV → Prop} : OwnFrom B (fun (s : β) W => ∃ v rs, Rings base bx W v rs ∧ p s rs) := fun s W W' row ⟨v, rs, h, hp⟩ hg hr =>
  ⟨v, rs, ⟨blk_own (cs := fun _ : β => #[v]) s W W' row h.box hg hr, ownsRow_own h.row hg (fun r e => (hr r e).2), fun x hx => ⟨(h.ok x hx).rd.own hg (fun r e => (hr r e).2), (h.ok x hx).fresh, (h.ok x hx).cap, (h.ok x hx).len, (h.ok x hx).sep⟩⟩, hp⟩
set_option maxHeartbeats 2000000 in
theorem shapeRings_any (o : RV) (ah : Option Addr) (ch : Nat) (hs : List RV) (w : World) (H : RdSh w o ah hs) :
    Calls Tryz.prog 56 #[.agg #[RV.enc o, .slice ah hs.length ch]] w fun e w' => ∃ (v : Value) (rs : List RV), e = .returned v ∧ rs.map RV.r = Geo.ringsS (geoS o hs) ∧ w'.ownsRow w.heap.size 23 1 v rs.length (rs.map RV.enc) ∧ (∀ x ∈ rs, RingOk w.heap.size w' v x) ∧ Below w.heap.size w w' := by
  refine (callsIn_wide (n := 9)).1 (callsIn_of_wp_marks Tryz.func56 rfl trivial ((wpIn_wide (n := 9)).2 ?_) rfl)
  simp only [Tryz.ntmps56, List.size_toArray, List.length_cons, List.length_nil, Nat.reduceAdd, Nat.reduceSub, Array.replicate_succ, Array.replicate_zero, List.push_toArray, List.append_toArray, List.nil_append, List.cons_append]
  dsimp only [RV.enc]
  go_wp2_with fail
  refine (rings_any o ah hs.length ch _).mono ?_
  rintro e w1 ⟨rfl, rfl⟩
  go_wp2_with fail
  have B3 := (Blk.new (w.alloc (.cells #[.slice o.a o.r.length o.c, .slice ah hs.length ch] 26)) 24 #[.slice none 0 0]).alloc (.cells #[RV.enc o, .slice ah hs.length ch] 26)
  have B4 := Blk.new ((w.alloc (.cells #[.slice o.a o.r.length o.c, .slice ah hs.length ch] 26)).alloc (.cells #[.slice none 0 0] 24)) 26 #[RV.enc o, .slice ah hs.length ch]
  have hBW : Below w.heap.size w ((((w.alloc (.cells #[.slice o.a o.r.length o.c, .slice ah hs.length ch] 26)).alloc (.cells #[.slice none 0 0] 24))).alloc (.cells #[RV.enc o, .slice ah hs.length ch] 26)) := (((Below.refl _ _).alloc (Nat.le_refl _) _).alloc (by simp) _).alloc (by simp; omega) _
  have hs0 : w.heap.size + 3 = ((((w.alloc (.cells #[.slice o.a o.r.length o.c, .slice ah hs.length ch] 26)).alloc (.cells #[.slice none 0 0] 24))).alloc (.cells #[RV.enc o, .slice ah hs.length ch] 26)).heap.size := by simp
  simp only [World.size_alloc] at B3 B4
  generalize (((w.alloc (.cells #[.slice o.a o.r.length o.c, .slice ah hs.length ch] 26)).alloc (.cells #[.slice none 0 0] 24))).alloc (.cells #[RV.enc o, .slice ah hs.length ch] 26) = W0 at B3 B4 hBW hs0 ⊢
  refine (wpIn_wide (n := 9)).1 ?_
  refine' wpIn_rangeFunc_ownF (F := Fence.wide) (n := 9) rfl (by omega) (gf := 179) (lb := #[.pointer (some ⟨w.heap.size + 1 + 1, 0, none⟩)]) rfl trivial (enters_of Tryz.func179 (by kernel_rfl) rfl)
    (rings1_stops Fence.wide 8 trivial rfl (by omega) (w.heap.size + 1 + 1) w.heap.size o ah ch hs H.n W0 (by omega) B4 (H.h.below hBW)) Kp2.trans (kp2_b (by omega) (by omega)) (Below.refl _ _) (fun _ => rfl)
    (fun pre W => (Blk W (w.heap.size + 1 + 1) 26 #[RV.enc o, .slice ah hs.length ch] ∧ ∃ v rs, Rings (w.heap.size + 3) (w.heap.size + 1) W v rs ∧ rs.map RV.r = pre.map fun x => x.1.r) ∧ (w.heap.size + 3 ≤ W.heap.size ∧ Below w.heap.size w W))
    (fun c pre W => False ∧ False)
    (OwnFrom.and (OwnFrom.and blk_own rings_own) (OwnFrom.and (fun s A B row h hg _ => Nat.le_trans h hg.size) (ownFrom_below (Nat.le_refl _) (by omega))))
    (fun c => OwnFrom.and own_of own_of)
    ⟨⟨B4, _, [], ⟨B3, World.ownsRow_nil _ _ _ _, fun x hx => by cases hx⟩, rfl⟩, by omega, hBW⟩ _ ?assign ?body ?done ?stop
  case assign =>
    intro l x W K hK
    dsimp only [RV.enc]
    gi_wp2
    exact hK
  case stop =>
    rintro D c pre W hD hpre ⟨h, _⟩ hK
    exact h.elim
  case done =>
    rintro D xs W hD hxs ⟨⟨b4, v, rs, hR, hm⟩, _, hb⟩ hK
    have c3 := hR.box.cell 0
    simp at c3
    have hD2 : w.heap.size ≤ D := by omega
    have hm2 : rs.map RV.r = Geo.ringsS (geoS o hs) := by
      have e : (xs.map fun x => x.1.r) = (xs.map (·.1)).map RV.r := by rw [List.map_map]; rfl
      rw [hm, e, hxs]; rfl
    clear hxs b4 B3 B4 hBW hs0 hD hm
    have hmk : ∀ x ∈ rs, RingOk w.heap.size (W.putObj D (.deferred none)) v x := fun x hx => ⟨(hR.ok x hx).rd.own (grownBy_putObj' W D _) (fun r e => by cases e; exact ⟨_, hK, rfl⟩), (hR.ok x hx).fresh.mono (by omega), (hR.ok x hx).cap, (hR.ok x hx).len, (hR.ok x hx).sep⟩
    have hrow := hR.row
    clear hR
    go_wp2
    exact postM_tmp (v := v) rfl rfl hK ⟨v, rs, rfl, hm2, ownsRow_base (ownsRow_mark hrow hK _) (by omega), hmk, hb.trans (below_mark hD2 hK)⟩
  case body =>
    rintro l pre ⟨⟨xa, xc, xr⟩, hxm⟩ W ⟨⟨b4, u3, rs, hR, hm⟩, hsz, hb⟩ hlen
    obtain ⟨hxr, hxl⟩ := H.v _ hxm
    dsimp only at hxr hxl
    have hxn : xr.length ≤ 1000 := hxl.1
    have hrl : rs.length ≤ 1001 := by have h1 := congrArg List.length hm; have h2 := H.n; simp at h1; omega
    have HE : Hid (∀ rs' : List RV, rs'.map RV.r = rs.map RV.r ++ [xr] → rs'.map RV.r = (pre ++ [(⟨⟨xa, xc, xr⟩, hxm⟩ : Mem o hs)]).map fun x => x.1.r) := Lib.hid (fun rs' h => by rw [h, hm]; simp)
    have b3 := hR.box
    have hrow := hR.row
    clear hm B3 B4 hBW hs0
    refine wpIn_block ?_
    dsimp only [RV.enc]
    refine wpIn_region_F (by kernel_rfl) (by kernel_rfl) [8, 9, 10, 11, 12] [[], [], [1], [1, 2], [0, 1, 2, 3], [0, 1, 2, 3, 4]] (by kernel_rfl) (by kernel_rfl) (by intro s hs; simp at hs ⊢; omega)
      (WR3 4 5 (fun wx => Below W.heap.size W wx) (fun wx => (∀ x ∈ rs, RdV wx x.a x.r) ∧ Blk wx (w.heap.size + 1) 24 #[u3] ∧ Blk wx (w.heap.size + 1 + 1) 26 #[RV.enc o, .slice ah hs.length ch] ∧ Below w.heap.size w wx ∧ KeepsOthers W wx ∧ Below w.heap.size W wx ∧ w.heap.size + 3 ≤ wx.heap.size) (fun wx => ∃ v rs', Rings (w.heap.size + 3) (w.heap.size + 1) wx v rs' ∧ rs'.map RV.r = rs.map RV.r ++ [xr] ∧ Blk wx (w.heap.size + 1 + 1) 26 #[RV.enc o, .slice ah hs.length ch] ∧ Below w.heap.size w wx ∧ KeepsOthers W wx ∧ Below w.heap.size W wx ∧ w.heap.size + 3 ≤ wx.heap.size))
      (fun i v wx => match i with
        | 0 => v = u3
        | 1 => v = .slice xa xr.length xc
        | 2 => ∃ a c, v = .slice a xr.length c ∧ RdV wx a xr ∧ Fresh W.heap.size a ∧ xr.length ≤ c
        | 3 => ∃ a c g, v = .slice (some ⟨g, 0, none⟩) 1 1 ∧ Blk wx g 23 #[.slice a xr.length c] ∧ W.heap.size ≤ g ∧ RdV wx a xr ∧ Fresh W.heap.size a ∧ xr.length ≤ c
        | 4 => ∃ a c, wx.ownsRow (w.heap.size + 3) 23 1 v (rs.length + 1) (rs.map RV.enc ++ [.slice a xr.length c]) ∧ RdV wx a xr ∧ Fresh W.heap.size a ∧ xr.length ≤ c ∧ (∀ k, v.ownBlock = some k → u3.ownBlock = some k ∨ W.heap.size ≤ k) ∧ (0 < xr.length → ∀ b, a = some b → v.ownBlock ≠ some b.block)
        | 5 => True
        | _ => True)
      (WR3.start (Below.refl _ _).drew) ?_ ?_ ?_
    · intro j v wx wy hf hxy
      match j with
      | 0 => exact hf
      | 1 => exact hf
      | 2 => obtain ⟨a, c, h1, h2, h3⟩ := hf; exact ⟨a, c, h1, h2.below hxy, h3⟩
      | 3 => obtain ⟨a, c, g, h1, h2, h3, h4, h5⟩ := hf; exact ⟨a, c, g, h1, h2.then_ hxy, h3, h4.below hxy, h5⟩
      | 4 => obtain ⟨a, c, h1, h2, h3⟩ := hf; exact ⟨a, c, ownsRow_then h1 hxy, h2.below hxy, h3⟩
      | 5 => exact hf
      | _ + 6 => exact trivial
    · refine ⟨?_, ?_, ?_, ?_, ?_, ?_, trivial⟩
      · intro D V wx hD hanc hdesc hin hWR
        have hA := hWR.lo (hdesc 4 (by kernel_rfl)) (hdesc 5 (by kernel_rfl))
        have e3 := hin 3 (by kernel_rfl)
        simp at e3
        have q0 := (Blk.then_ b3 hA).cell 0
        simp at q0
        refine opK ?_
        intro K hK
        simp [opRun, execOp, evalV, e3, q0, go_sem]
        exact hK _ _ ⟨rfl, (hWR.keep (by decide) (by decide)), .inl rfl⟩
      · intro D V wx hD hanc hdesc hin hWR
        have hA := hWR.lo (hdesc 4 (by kernel_rfl)) (hdesc 5 (by kernel_rfl))
        have e4 := hin 4 (by kernel_rfl)
        simp at e4
        refine opK ?_
        intro K hK
        simp [opRun, execOp, evalV, e4, go_sem]
        exact hK _ _ ⟨rfl, (hWR.keep (by decide) (by decide)), .inl rfl⟩
      · intro D V wx hD hanc hdesc hin hWR
        have hA := hWR.lo (hdesc 4 (by kernel_rfl)) (hdesc 5 (by kernel_rfl))
        have e9 : V 9 = .slice xa xr.length xc := (hanc 1 (by kernel_rfl)).2
        refine opK ?_
        intro K hK
        simp [opRun, execOp, evalV, e9, go_sem]
        refine (clone_any xa xc xr _ (hxr.below (hb.trans (hA.mono hb.size))) hxl.1).mono ?_
        rintro e w1 ⟨a, c, rfl, hR', hF, hN, hC, hc⟩
        exact ⟨_, rfl, hK _ _ ⟨⟨a, c, rfl, RdV.of_rd hR', hF.mono hA.size, hC⟩, (.mkLo (hdesc 4 (by kernel_rfl)) (hdesc 5 (by kernel_rfl)) (by decide) (by decide) (Below.then_ hA hc)), .inr (.inl hc)⟩⟩
      · intro D V wx hD hanc hdesc hin hWR
        have hA := hWR.lo (hdesc 4 (by kernel_rfl)) (hdesc 5 (by kernel_rfl))
        have e10 := (hanc 2 (by kernel_rfl)).2
        refine opK ?_
        intro K hK
        obtain ⟨a, c, e10, r1, r2, r3⟩ := e10
        have e10 : V 10 = _ := e10
        simp [opRun, execOp, evalV, e10, go_sem]
        refine hK _ _ ⟨⟨a, c, _, rfl, Blk.new _ _ _, hA.size, r1.below ((Below.refl _ _).alloc (Nat.le_refl _) _), r2, r3⟩, (.mkLo (hdesc 4 (by kernel_rfl)) (hdesc 5 (by kernel_rfl)) (by decide) (by decide) (hA.alloc hA.size _)), .inr (.inl ((Below.refl _ _).alloc (Nat.le_refl _) _))⟩
      · intro D V wx hD hanc hdesc hin hWR
        have hA := hWR.lo hD (hdesc 5 (by kernel_rfl))
        have e8 : V 8 = u3 := (hanc 0 (by kernel_rfl)).2
        have e11 := (hanc 3 (by kernel_rfl)).2
        refine opK ?_
        intro K hK
        obtain ⟨a, c, g, e11, k1, k2, k3, k4, k5⟩ := e11
        have e11 : V 11 = _ := e11
        refine opRun_app (.tmp 8) (.tmp 11) 24 rfl (w.heap.size + 3) 23 (.slice none 0 0) 1 24 Tryz.underlying24 (by kernel_rfl) rfl (by decide) u3 _ _ e8 (ownsRow_then hrow hA) _ _ _ [.slice a xr.length c] e11 rfl (Rd.of_blk k1) (fun h => by cases h) (by intro u hu; simp at hu; subst hu; rfl) (by omega) (by omega) (by have := hA.size; omega) ?_
        intro v' w' h1 h2 h3 h4
        have hbx := (Blk.then_ b3 hA)
        have hbr := (Blk.then_ b4 hA)
        have hro := ownsRow_then hrow hA
        have hlt := k3.lt
        refine hK _ _ ⟨⟨a, c, h1, k3.grown (fun _ b hb e => by have := k4 b hb; have := (ownsRow_block hrow _ e).2; omega) h3, k4, k5, (fun k hk => (h4 k hk).imp id (fun h => Nat.le_trans hA.size h)), (fun h0 b hb e => by have := hlt h0 b hb; have := k4 b hb; rcases h4 _ e with h | h <;> first | omega | (have := (ownsRow_block hrow _ h).2; omega))⟩, .mkMid (hdesc 5 (by kernel_rfl)) (by decide) ⟨(fun x hx => ((hR.ok x hx).rd.below hA).grown (hR.ok x hx).sep h3), grownBy_blk h3 hbx (row_near hro (by omega)), grownBy_blk h3 hbr (row_near hro (by omega)), (hb.trans (hA.mono hb.size)).trans (h2.mono (by omega)), (keeps_below hA).trans (app_keeps hro h3), ((Below.refl w.heap.size W).trans (hA.mono hb.size)).trans (h2.mono (by omega)), by have := hA.size; have := h2.size; omega⟩, .inr (.inr ?_)⟩
        intro j hj hf
        match j with
        | 0 => exact hf
        | 1 => exact hf
        | 2 => obtain ⟨a, c, g1, g2, g3, g4⟩ := hf; exact ⟨a, c, g1, g2.grown (fun _ b hb e => by have := g3 b hb; have := (ownsRow_block hrow _ e).2; omega) h3, g3, g4⟩
        | 3 => obtain ⟨a, c, g, g1, g2, g5, g6, g3, g4⟩ := hf; exact ⟨a, c, g, g1, grownBy_blk h3 g2 (fun e => by have := (ownsRow_block hrow _ e).2; omega), g5, g6.grown (fun _ b hb e => by have := g3 b hb; have := (ownsRow_block hrow _ e).2; omega) h3, g3, g4⟩
        | 4 => exact absurd (hj.symm.trans hD) (by decide)
        | 5 => exact absurd (hj.symm.trans (hdesc 5 (by kernel_rfl))) (by decide)
        | _ + 6 => exact trivial
      · intro D V wx hD hanc hdesc hin hWR
        have hB := hWR.mid (hanc 4 (by kernel_rfl)).1 hD
        have e3 := hin 3 (by kernel_rfl)
        simp at e3
        have e12 := (hanc 4 (by kernel_rfl)).2
        refine opK ?_
        intro K hK
        have q0 := hB.2.1.cell 0
        have f0 := hB.2.1.frozen 0
        simp at q0
        obtain ⟨a, c, e12, k2, k3, k4, k5, k6⟩ := e12
        have e12 : wx.ownsRow (w.heap.size + 3) 23 1 (V 12) (rs.length + 1) (rs.map RV.enc ++ [.slice a xr.length c]) := e12
        have e3 : V 3 = _ := e3
        have k5 : ∀ k, (V 12).ownBlock = some k → _ := k5
        have k6 : 0 < xr.length → ∀ b, a = some b → (V 12).ownBlock ≠ some b.block := k6
        obtain ⟨ra, rc, hv, _, _, _⟩ := Rd.of_row e12
        rw [hv] at e12 k5 k6
        simp [opRun, execOp, evalV, e3, hv, q0, f0, go_sem]
        have HRK : ∀ x ∈ rs ++ [(⟨a, c, xr⟩ : RV)], RingOk (w.heap.size + 3) (wx.setCell ⟨w.heap.size + 1, 0, none⟩ (.slice ra (rs.length + 1) rc)) (.slice ra (rs.length + 1) rc) x := by
          intro x hx
          rcases List.mem_append.1 hx with h | h
          · have ok := hR.ok x h
            refine ⟨(hB.1 x h).set_ (fun _ b hb => by have := ok.fresh b hb; show w.heap.size + 1 ≠ _; omega), ok.fresh, ok.cap, ok.len, fun h0 b hb e => ?_⟩
            rcases k5 _ e with e2 | e2
            · exact ok.sep h0 b hb e2
            · have := ok.rd.lt h0 b hb; omega
          · simp at h; subst h
            exact ⟨k2.set_ (fun _ b hb => by have := k3 b hb; have := b3.lt; show w.heap.size + 1 ≠ _; omega), k3.mono hsz, k4, hxn, k6⟩
        refine hK _ _ ⟨trivial, .mkHi ⟨_, rs ++ [⟨a, c, xr⟩], ⟨by simpa using hB.2.1.set_ 0 (.slice ra (rs.length + 1) rc), by simpa [RV.enc] using ownsRow_set e12 (by show w.heap.size + 1 < w.heap.size + 3; omega), HRK⟩, by simp, hB.2.2.1.far (by simp) _, hB.2.2.2.1.setCell (p := ⟨w.heap.size + 1, 0, none⟩) (by simp) _, hB.2.2.2.2.1.trans (KeepsOthers.setCell _ _ _), hB.2.2.2.2.2.1.setCell (p := ⟨w.heap.size + 1, 0, none⟩) (by simp) _, by simpa using hB.2.2.2.2.2.2⟩, .inr (.inr ?_)⟩
        intro j hj hf
        match j with
        | 0 => exact hf
        | 1 => exact hf
        | 2 => obtain ⟨a, c, g1, g2, g3, g4⟩ := hf; exact ⟨a, c, g1, g2.set_ (fun _ b hb => by have := g3 b hb; have := b3.lt; show w.heap.size + 1 ≠ _; omega), g3, g4⟩
        | 3 => obtain ⟨a, c, g, g1, g2, g5, g6, g3, g4⟩ := hf; exact ⟨a, c, g, g1, g2.far (by have := b3.lt; show g ≠ w.heap.size + 1; omega) _, g5, g6.set_ (fun _ b hb => by have := g3 b hb; have := b3.lt; show w.heap.size + 1 ≠ _; omega), g3, g4⟩
        | 4 => obtain ⟨a, c, g1, g2, g3, g4, g5, g6⟩ := hf; exact ⟨a, c, ownsRow_set g1 (by show w.heap.size + 1 < _; omega), g2.set_ (fun _ b hb => by have := g3 b hb; have := b3.lt; show w.heap.size + 1 ≠ _; omega), g3, g4, g5, g6⟩
        | 5 => exact absurd (hj.symm.trans hD) (by decide)
        | _ + 6 => exact trivial
    intro D V wx hall hf hWR
    replace hWR := hWR.hi (hall 5 (by decide))
    have f0 : V 8 = u3 := hf 0 (by decide)
    have f1 : V 9 = .slice xa xr.length xc := hf 1 (by decide)
    have f2 := hf 2 (by decide)
    have f3 := hf 3 (by decide)
    have f4 := hf 4 (by decide)
    clear hf hall
    simp only [putAll, List.foldl_cons, List.foldl_nil, f0, f1]
    simp only [Act.put, List.setIfInBounds_toArray, List.set_cons_succ, List.set_cons_zero]
    clear f0 f1
    obtain ⟨v', rs', k1, k2, k3, k4, k5, k6, k7⟩ := hWR
    exact ⟨k5, ⟨k6, Eq.trans k3 (Eq.symm b4)⟩, ⟨k3, v', rs', k1, HE.out _ k2⟩, k7, k4⟩
end Go.Proofs.YtdaeofhdgabhjaaGreat
namespace Go.Proofs.YtdaeofhdgabhjaaGreat
open Go.RowKit Go.Shelf
attribute [local go_sem] Oper.semAt_some
def areaSh (s : Geo.Shape) : Int := Geo.area s.outer - (s.holes.map Geo.area).sum
theorem area_bd {xs : List Geo.V} (h : Geo.validP xs = true) : -8000000000 ≤ Geo.area xs ∧ Geo.area xs ≤ 8000000000 := by
  have V := (Geo.validP_iff xs).1 h
  have h := ar_bd V.near xs.length (Nat.le_refl _)
  have e : ar xs xs.length = Geo.area xs := rfl
  have := V.most
  rw [e] at h
  omega
def areasOf {o : RV} {hs : List RV} (pre : List (Mem o hs)) : Int := (pre.map fun x => Geo.area x.1.r).sum
theorem areasOf_snoc {o : RV} {hs : List RV} (pre : List (Mem o hs)) (x : Mem o hs) : areasOf (pre ++ [x]) = areasOf pre + Geo.area x.1.r := by unfold areasOf; simp
theorem areasOf_bd {o : RV} {hs : List RV} (hv : ∀ x ∈ o :: hs, Geo.validP x.r = true) (pre : List (Mem o hs)) : -(8000000000 * (pre.length : Int)) ≤ areasOf pre ∧ areasOf pre ≤ 8000000000 * (pre.length : Int) := by
  induction pre with
  | nil => simp [areasOf]
  | cons x l ih =>
    have := area_bd (hv x.1 x.2)
    unfold areasOf at *
    simp only [List.map_cons, List.sum_cons, List.length_cons]
    omega
theorem areasOf_all {o : RV} {hs : List RV} {xs : List (Mem o hs)} (h : xs.map (·.1) = o :: hs) : Geo.area o.r * 2 - areasOf xs = areaSh (geoS o hs) := by
  have e : (xs.map fun x => Geo.area x.1.r) = (xs.map (·.1)).map fun x => Geo.area x.r := by rw [List.map_map]; rfl
  unfold areasOf areaSh geoS
  rw [e, h]
  simp only [List.map_cons, List.sum_cons, List.map_map, Function.comp_def]
  omega
theorem validS_rings {s : Geo.Shape} (h : Geo.validSP s = true) : ∀ r ∈ Geo.ringsS s, Geo.validP r = true := by
  rw [validSP_def] at h
  simp only [Bool.and_eq_true] at h
  exact List.all_eq_true.1 h.1.1.2
set_option maxRecDepth 100000 in
set_option maxHeartbeats 2000000 in
theorem shapeArea_any (o : RV) (ah : Option Addr) (ch : Nat) (hs : List RV) (w : World) (H : RdSh w o ah hs) (hch : hs.length ≤ ch) :
    Calls Tryz.prog 90 #[.agg #[RV.enc o, .slice ah hs.length ch]] w fun e w' => e = .returned (.int .i64 (if Geo.validSP (geoS o hs) then areaSh (geoS o hs) else 0)) ∧ Below w.heap.size w w' := by
  have HB0 := Blk.new w 26 #[RV.enc o, .slice ah hs.length ch]
  have hB0 : Below w.heap.size w (w.alloc (.cells #[RV.enc o, .slice ah hs.length ch] 26)) := (Below.refl _ _).alloc (Nat.le_refl _) _
  cases hv : Geo.validSP (geoS o hs) with
  | false =>
    refine (callsIn_wide (n := 9)).1 (callsIn_of_wp_marks Tryz.func90 rfl trivial ((wpIn_wide (n := 9)).2 ?_) rfl)
    simp only [Tryz.ntmps90, List.size_toArray, List.length_cons, List.length_nil, Nat.reduceAdd, Nat.reduceSub, Array.replicate_succ, Array.replicate_zero, List.push_toArray, List.append_toArray, List.nil_append, List.cons_append]
    go_wp2_with fail
    refine (shapeValid_any o ah ch hs _ (H.below hB0) hch).mono ?_
    rintro e w1 ⟨rfl, hb1⟩
    rw [hv]
    go_wp2_with fail
    exact postM_ret0 (v := .int .i64 0) (by simp [results, Tryz.f90]) rfl ⟨rfl, hB0.trans (hb1.mono hB0.size)⟩
  | true =>
    have hval : ∀ x ∈ o :: hs, Geo.validP x.r = true := fun x hx => validS_rings hv x.r (by
      unfold Geo.ringsS geoS
      simp only [List.mem_cons] at hx ⊢
      rcases hx with h | h
      · exact .inl (by rw [h])
      · exact .inr (List.mem_map.2 ⟨_, h, rfl⟩))
    have hAO := area_bd (hval o List.mem_cons_self)
    have hAO2 : (if Geo.validP o.r then Geo.area o.r else 0) = Geo.area o.r := by rw [hval o List.mem_cons_self]; rfl
    refine (callsIn_wide (n := 9)).1 (callsIn_of_wp_marks Tryz.func90 rfl trivial ((wpIn_wide (n := 9)).2 ?_) rfl)
    simp only [Tryz.ntmps90, List.size_toArray, List.length_cons, List.length_nil, Nat.reduceAdd, Nat.reduceSub, Array.replicate_succ, Array.replicate_zero, List.push_toArray, List.append_toArray, List.nil_append, List.cons_append]
    go_wp2_with fail
    refine (shapeValid_any o ah ch hs _ (H.below hB0) hch).mono ?_
    rintro e w1 ⟨rfl, hb1⟩
    rw [hv]
    have B1 := HB0.then_ hb1
    have hB1 := hB0.trans (hb1.mono hB0.size)
    have hsz1 : w.heap.size + 1 ≤ w1.heap.size := by simpa using hb1.size
    clear HB0 hB0 hb1
    have c0 := B1.cell 0
    have c1 := B1.cell 1
    simp at c0 c1
    go_wp2_with fail
    refine (area2_any o.a o.c o.r _ ((H.v o List.mem_cons_self).1.below hB1) (H.v o List.mem_cons_self).2).mono ?_
    rintro e w2 ⟨rfl, hb2⟩
    rw [hAO2]
    have B2 := B1.then_ hb2
    have hB2 := hB1.trans (hb2.mono hB1.size)
    have hsz2 : w.heap.size + 1 ≤ w2.heap.size := Nat.le_trans hsz1 hb2.size
    clear B1 hB1 hb2 c0 c1 hsz1 hAO2
    generalize hAe : Geo.area o.r = A at hAO
    have B2a := B2.alloc (.cells #[.int .i64 (2 * A)] 3)
    have B3 := Blk.new w2 3 #[.int .i64 (2 * A)]
    have hB2a := hB2.alloc hB2.size (.cells #[.int .i64 (2 * A)] 3)
    have hsz3 : w.heap.size + 1 ≤ (w2.alloc (.cells #[.int .i64 (2 * A)] 3)).heap.size := by simp; omega
    have hp3 : w2.heap.size < (w2.alloc (.cells #[.int .i64 (2 * A)] 3)).heap.size := by simp
    have c0 := B2a.cell 0
    have c1 := B2a.cell 1
    simp at c0 c1
    obtain ⟨p3, hp3e⟩ : ∃ p, p = w2.heap.size := ⟨_, rfl⟩
    rw [← hp3e] at B3 hp3 hsz2
    go_wp2_with fail
    rw [← hp3e]
    clear hp3e
    generalize w2.alloc (.cells #[.int .i64 (2 * A)] 3) = w3 at B2a B3 hB2a hsz3 hp3 c0 c1 ⊢
    clear B2 hB2
    refine (rings_any o ah hs.length ch _).mono ?_
    rintro e w4 ⟨rfl, rfl⟩
    go_wp2_with fail
    have B3' := B3.alloc (.cells #[RV.enc o, .slice ah hs.length ch] 26)
    have B4 := Blk.new w3 26 #[RV.enc o, .slice ah hs.length ch]
    have hB4 := hB2a.alloc hB2a.size (.cells #[RV.enc o, .slice ah hs.length ch] 26)
    have hsz4 : w3.heap.size < (w3.alloc (.cells #[RV.enc o, .slice ah hs.length ch] 26)).heap.size := by simp
    obtain ⟨p4, hp4e⟩ : ∃ p, p = w3.heap.size := ⟨_, rfl⟩
    rw [← hp4e] at B4 hp3 hsz3 hsz4
    rw [← hp4e]
    clear hp4e B3 B2a c0 c1 hB2a
    generalize w3.alloc (.cells #[RV.enc o, .slice ah hs.length ch] 26) = W0 at B3' B4 hB4 hsz4 ⊢
    refine (wpIn_wide (n := 9)).1 ?_
    refine' wpIn_rangeFunc_ownF (F := Fence.wide) (n := 9) rfl (by omega) (gf := 179) (lb := #[.pointer (some ⟨p4, 0, none⟩)]) rfl trivial (enters_of Tryz.func179 (by kernel_rfl) rfl)
      (rings1_stops Fence.wide 8 trivial rfl (by omega) p4 w.heap.size o ah ch hs H.n W0 (by omega) B4 (H.h.below hB4)) Kp2.trans (kp2_b (by omega) (by omega)) (Below.refl _ _) (fun _ => rfl)
      (fun pre W => (Blk W p4 26 #[RV.enc o, .slice ah hs.length ch] ∧ Blk W p3 3 #[.int .i64 (2 * A - areasOf pre)]) ∧ Below w.heap.size w W)
      (fun c pre W => False ∧ False)
      (OwnFrom.and (OwnFrom.and blk_own blk_own) (ownFrom_below (Nat.le_refl _) (by omega)))
      (fun c => OwnFrom.and own_of own_of)
      ⟨⟨B4, by simpa [areasOf] using B3'⟩, hB4⟩ _ ?assign ?body ?done ?stop
    case assign =>
      intro l x W K hK
      dsimp only [RV.enc]
      gi_wp2
      exact hK
    case stop =>
      rintro D c pre W hD hpre ⟨h, _⟩ hK
      exact h.elim
    case done =>
      rintro D xs W hD hxs ⟨⟨b4, b3⟩, hb⟩ hK
      have hres : 2 * A - areasOf xs = areaSh (geoS o hs) := by have := areasOf_all hxs; rw [hAe] at this; omega
      rw [hres] at b3
      have hD2 : w.heap.size ≤ D := by omega
      clear hxs hres b4 B4 B3' hB4
      have c3 := b3.cell 0
      simp at c3
      go_wp2
      exact postM_tmp (v := .int .i64 (areaSh (geoS o hs))) rfl rfl hK ⟨rfl, hb.trans (below_mark hD2 hK)⟩
    case body =>
      rintro l pre ⟨⟨xa, xc, xr⟩, hxm⟩ W ⟨⟨b4, b3⟩, hb⟩ hlen
      obtain ⟨hxr, hxl⟩ := H.v _ hxm
      have hvx := hval _ hxm
      have hA := area_bd hvx
      dsimp only at hxr hxl hvx hA
      have HE : Hid (areasOf (pre ++ [(⟨⟨xa, xc, xr⟩, hxm⟩ : Mem o hs)]) = areasOf pre + Geo.area xr) := Lib.hid (areasOf_snoc _ _)
      have hbd := areasOf_bd hval pre
      have hN := H.n
      have hX2 : (if Geo.validP xr then Geo.area xr else 0) = Geo.area xr := by rw [hvx]; rfl
      have hwrap : IntKind.i64.wrap (2 * A - areasOf pre - Geo.area xr) = 2 * A - areasOf pre - Geo.area xr := IntWalk.i64_in _ ⟨by omega, by omega⟩
      generalize areasOf pre = S at HE hbd b3 hwrap
      have hX := Lib.hid hX2
      clear hX2 hvx hval B4 B3' hB4
      refine wpIn_block ?_
      dsimp only [RV.enc]
      refine wpIn_region_F (by kernel_rfl) (by kernel_rfl) [15, 16, 17, 18] [[], [], [1], [0, 1, 2], [0, 1, 2, 3]] (by kernel_rfl) (by kernel_rfl) (by intro s hs; simp at hs ⊢; omega)
        (WR2 4 (fun wx => Below W.heap.size W wx) (fun wx => Blk wx p3 3 #[.int .i64 (2 * A - S - Geo.area xr)] ∧ Blk wx p4 26 #[RV.enc o, .slice ah hs.length ch] ∧ Below w.heap.size w wx ∧ KeepsOthers W wx ∧ Below w.heap.size W wx))
        (fun i v wx => match i with
          | 0 => v = .int .i64 (2 * A - S)
          | 1 => v = .slice xa xr.length xc
          | 2 => v = .int .i64 (Geo.area xr)
          | 3 => v = .int .i64 (2 * A - S - Geo.area xr)
          | 4 => True
          | _ => True)
        (WR2.start (Below.refl _ _).drew) ?_ ?_ ?_
      · intro j v wx wy hf hxy
        match j with
        | 0 => exact hf
        | 1 => exact hf
        | 2 => exact hf
        | 3 => exact hf
        | 4 => exact hf
        | _ + 5 => exact trivial
      · refine ⟨?_, ?_, ?_, ?_, ?_, trivial⟩
        · intro D V wx hD hanc hdesc hin hWR
          have hA := hWR.lo (hdesc 4 (by kernel_rfl))
          have e3 := hin 3 (by kernel_rfl)
          simp at e3
          have q0 := (Blk.then_ b3 hA).cell 0
          simp at q0
          refine opK ?_
          intro K hK
          simp [opRun, execOp, evalV, e3, q0, go_sem]
          exact hK _ _ ⟨rfl, (hWR.keep (by decide)), .inl rfl⟩
        · intro D V wx hD hanc hdesc hin hWR
          have hA := hWR.lo (hdesc 4 (by kernel_rfl))
          have e4 := hin 4 (by kernel_rfl)
          simp at e4
          refine opK ?_
          intro K hK
          simp [opRun, execOp, evalV, e4, go_sem]
          exact hK _ _ ⟨rfl, (hWR.keep (by decide)), .inl rfl⟩
        · intro D V wx hD hanc hdesc hin hWR
          have hA := hWR.lo (hdesc 4 (by kernel_rfl))
          have e16 : V 16 = .slice xa xr.length xc := (hanc 1 (by kernel_rfl)).2
          refine opK ?_
          intro K hK
          simp [opRun, execOp, evalV, e16, go_sem]
          refine (area2_any xa xc xr _ (hxr.below (hb.trans (hA.mono hb.size))) hxl).mono ?_
          rintro e w1 ⟨rfl, hc⟩
          rw [hX.out]
          exact ⟨_, rfl, hK _ _ ⟨rfl, (.mkLo (hdesc 4 (by kernel_rfl)) (by decide) (Below.then_ hA hc)), .inr (.inl hc)⟩⟩
        · intro D V wx hD hanc hdesc hin hWR
          have hA := hWR.lo (hdesc 4 (by kernel_rfl))
          have e15 : V 15 = .int .i64 (2 * A - S) := (hanc 0 (by kernel_rfl)).2
          have e17 : V 17 = .int .i64 (Geo.area xr) := (hanc 2 (by kernel_rfl)).2
          refine opK ?_
          intro K hK
          simp [opRun, execOp, evalV, e15, e17, hwrap, go_sem]
          exact hK _ _ ⟨rfl, (hWR.keep (by decide)), .inl rfl⟩
        · intro D V wx hD hanc hdesc hin hWR
          have hA := hWR.lo hD
          have e3 := hin 3 (by kernel_rfl)
          simp at e3
          have e18 : V 18 = .int .i64 (2 * A - S - Geo.area xr) := (hanc 3 (by kernel_rfl)).2
          refine opK ?_
          intro K hK
          have q0 := (Blk.then_ b3 hA).cell 0
          have f0 := (Blk.then_ b3 hA).frozen 0
          simp at q0
          simp [opRun, execOp, evalV, e3, e18, q0, f0, go_sem]
          refine hK _ _ ⟨trivial, .mkHi ⟨by simpa using (Blk.then_ b3 hA).set_ 0 (.int .i64 (2 * A - S - Geo.area xr)), (Blk.then_ b4 hA).far (by show p4 ≠ p3; omega) _, (hb.trans (hA.mono hb.size)).setCell (p := ⟨p3, 0, none⟩) (by show w.heap.size ≤ p3; omega) _, (keeps_below hA).trans (KeepsOthers.setCell _ _ _), ((Below.refl w.heap.size W).trans (hA.mono hb.size)).setCell (p := ⟨p3, 0, none⟩) (by show w.heap.size ≤ p3; omega) _⟩, .inr (.inr ?_)⟩
          intro j hj hf
          match j with
          | 0 => exact hf
          | 1 => exact hf
          | 2 => exact hf
          | 3 => exact hf
          | 4 => exact absurd (hj.symm.trans hD) (by decide)
          | _ + 5 => exact trivial
      intro D V wx hall hf hWR
      replace hWR := hWR.hi (hall 4 (by decide))
      have f0 : V 15 = .int .i64 (2 * A - S) := hf 0 (by decide)
      have f1 : V 16 = .slice xa xr.length xc := hf 1 (by decide)
      have f2 : V 17 = .int .i64 (Geo.area xr) := hf 2 (by decide)
      have f3 : V 18 = .int .i64 (2 * A - S - Geo.area xr) := hf 3 (by decide)
      clear hf hall
      simp only [putAll, List.foldl_cons, List.foldl_nil, f0, f1, f2, f3]
      simp only [Act.put, List.setIfInBounds_toArray, List.set_cons_succ, List.set_cons_zero]
      clear f0 f1 f2 f3
      obtain ⟨k1, k2, k3, k4, k5⟩ := hWR
      refine ⟨k4, ⟨k5, Eq.trans k2 (Eq.symm b4)⟩, ⟨k2, ?_⟩, k3⟩
      rw [HE.out, show 2 * A - (S + Geo.area xr) = 2 * A - S - Geo.area xr by omega]
      exact k1
end Go.Proofs.YtdaeofhdgabhjaaGreat
