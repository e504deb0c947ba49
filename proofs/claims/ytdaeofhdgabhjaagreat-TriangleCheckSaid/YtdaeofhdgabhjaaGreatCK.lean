/- TriangleCheck returns true for every shape and every list of rings: no condition. (K18 K19 Q2) -/
import Derived.Test.YtdaeofhdgabhjaaGreatC6
namespace Go.Proofs.YtdaeofhdgabhjaaGreat
open Go.RowKit
set_option maxRecDepth 100000
noncomputable section
open Geo (Ring apartTR cmpRing cmpV edgesS middleR nth rightR validR whereSR withinTR)
def swR (a b : Ring) (n : Nat) : Ring := if n % 2 = 0 then a else b
theorem swR_succ (a b : Ring) (n : Nat) : swR b a n = swR a b (n + 1) := by unfold swR; split <;> split <;> first | rfl | omega
def rU (a b : Ring) (i k : Nat) : Bool := (List.range k).all fun j => decide (Geo.turn (nth a i) (nth a ((i + 1) % a.length)) (nth b j) ≤ 0)
theorem rU_succ (a b : Ring) (i k : Nat) : rU a b i (k + 1) = (rU a b i k && decide (Geo.turn (nth a i) (nth a ((i + 1) % a.length)) (nth b k) ≤ 0)) := by
  unfold rU; rw [List.range_succ, List.all_append]; simp
theorem rU_all (a b : Ring) (i : Nat) : rU a b i b.length = b.all fun v => decide (Geo.turn (nth a i) (Geo.nxt a i) v ≤ 0) := by
  unfold rU
  rw [Bool.eq_iff_iff, List.all_eq_true, List.all_eq_true]
  constructor
  · intro h v hv
    obtain ⟨j, hj, rfl⟩ := Geo.mem_nth.1 hv
    exact h j (List.mem_range.2 hj)
  · intro h j hj
    exact h _ (Geo.nth_mem (List.mem_range.1 hj))
theorem rightR_any (a b : Ring) : rightR a b = (List.range a.length).any fun i => rU a b i b.length := by
  unfold rightR; congr 1; funext i; rw [rU_all]
theorem rightR_yes {a b : Ring} {i : Nat} (hi : i < a.length) (h : rU a b i b.length = true) : rightR a b = true := by
  rw [rightR_any]; exact List.any_eq_true.2 ⟨i, List.mem_range.2 hi, h⟩
theorem rightR_no {a b : Ring} (h : upto (fun i => rU a b i b.length = false) a.length) : rightR a b = false := by
  rw [rightR_any]; exact List.any_eq_false.2 fun i hi => by rw [h i (List.mem_range.1 hi)]; simp
theorem apart_sw {a b : Ring} {n : Nat} (h : rightR (swR a b n) (swR b a n) = true) : true = apartTR a b := by
  unfold swR at h; unfold apartTR
  split at h
  · rw [h]; rfl
  · rw [h]; simp
theorem apart_no {a b : Ring} (h : upto (fun n => rightR (swR a b n) (swR b a n) = false) 2) : false = apartTR a b := by
  have h0 := h 0 (by omega)
  have h1 := h 1 (by omega)
  unfold swR at h0 h1
  unfold apartTR
  rw [show rightR a b = false from h0, show rightR b a = false from h1]; rfl
def c77 : Con := con (ac (aL .V) (ac (aL .V) (a1 (aF 78)))) (fun (a, b, _) => [a.length ≤ 1000000, b.length ≤ 1000000]) (fun (a, b, _) => .int .i64 (cmpRing a b))
theorem k77 : c77.Ok Tryz.prog 77 := con_ok (cx_ok t124o) (raw := noRaw) (fun (a, b, _) => [lp 2 13 a.length (fun k => [k ≤ b.length, upto (fun j => cmpV (nth a j) (nth b j) = 0) k]) [] (fun _ => []) (fun _ => [])]
  ) (fun (_, _, _) => ⟨_, rfl⟩) fun (a, b, u) hp => by_vc (q := (0 = (0 : Int) ∧ (0 : Nat) ≤ a.length ∧ (0 : Nat) ≤ b.length ∧ upto (fun j => cmpV (nth a j) (nth b j) = 0) 0) ∧
 (∀ x : Nat, x ≤ a.length ∧ x ≤ b.length ∧ upto (fun j => cmpV (nth a j) (nth b j) = 0) x → ((x : Int) < a.length → ix (x : Int) a.length ∧ ((b.length : Int) ≤ x → 1 = cmpRing a b) ∧
   (¬ (b.length : Int) ≤ x → ix (x : Int) b.length ∧ (¬ cmpV (nth a x) (nth b x) = 0 → cmpV (nth a x) (nth b x) = cmpRing a b) ∧
    (¬ (¬ cmpV (nth a x) (nth b x) = 0) → in64 ((x : Int) + 1) ∧ (x : Int) + 1 = ((x + 1 : Nat) : Int) ∧ x + 1 ≤ a.length ∧ x + 1 ≤ b.length ∧ upto (fun j => cmpV (nth a j) (nth b j) = 0) (x + 1) ∧ a.length - (x + 1) < a.length - x))) ∧
  (¬ (x : Int) < a.length → ((a.length : Int) < b.length → -1 = cmpRing a b) ∧
   (¬ (a.length : Int) < b.length → 0 = cmpRing a b)))) (by kernel_rfl) (by
  change a.length ≤ 1000000 ∧ b.length ≤ 1000000 at hp
  have g1 : ∀ x : Nat, (x : Int) < a.length → x ≤ b.length → upto (fun j => cmpV (nth a j) (nth b j) = 0) x → (b.length : Int) ≤ x → 1 = cmpRing a b := fun x h1 h2 h3 h4 => by
    rw [cmpRing_fin (k := x) (by omega) h2 (.inr (by omega)) h3]; unfold Geo.sgn; rw [if_pos (by omega)]
  have g2 : ∀ x : Nat, ¬ (x : Int) < a.length → x ≤ a.length → x ≤ b.length → upto (fun j => cmpV (nth a j) (nth b j) = 0) x → cmpRing a b = Geo.sgn ((a.length : Int) - b.length) := fun x h1 h2 h3 h4 => cmpRing_fin h2 h3 (.inl (by omega)) h4
  have s1 : (a.length : Int) < b.length → -1 = Geo.sgn ((a.length : Int) - b.length) := fun h => by unfold Geo.sgn; rw [if_neg (by omega), if_pos (by omega)]
  have s2 : (a.length : Int) = b.length → 0 = Geo.sgn ((a.length : Int) - b.length) := fun h => by unfold Geo.sgn; rw [if_neg (by omega), if_neg (by omega)]
  repeat' first | with_reducible apply And.intro | with_reducible intro
  all_goals repeat with_reducible cases ‹_ ∧ _›
  all_goals first | assumption | rfl | exact trivial | exact nb ‹_› | exact nb' ‹_› | omega | exact ix_mod (by omega) | (unfold ix; omega) | (unfold in64; omega) | exact upto_zero _ | exact upto_succ ‹_› ‹_› | (refine upto_succ ‹_› ?_; simp_all; done) | exact (cmpRing_ix ‹_› ‹_› (by omega) (by omega)).symm | exact g1 _ ‹_› ‹_› ‹_› ‹_› | (rw [g2 _ ‹_› ‹_› ‹_› ‹_›]; first | exact s1 ‹_› | exact s2 (by omega)) | exact upto_succ ‹_› (Decidable.of_not_not ‹¬ ¬ _›) | grind)
def t77 : Tab := tabL [(77, c77)] t124
theorem t77o : t77.Ok Tryz.prog := tabL_ok t124o ⟨k77, trivial⟩
def c26 : Con := con (ac (aL .V) (a1 (aL .V))) (fun (a, b) => [a.length ≤ 1000000, b.length ≤ 1000000]) (fun (a, b) => .int .i64 (cmpRing a b))
theorem k26 : c26.Ok Tryz.prog 26 := con_ok (cx_ok t77o) (raw := noRaw) (fun (_, _) => []
  ) (fun (_, _) => ⟨_, rfl⟩) fun (a, b) hp => by_vc (q := a.length ≤ 1000000 ∧ b.length ≤ 1000000 ∧ cmpRing a b = cmpRing a b) (by kernel_rfl) (by
  change a.length ≤ 1000000 ∧ b.length ≤ 1000000 at hp
  exact ⟨hp.1, hp.2, rfl⟩)
def t26 : Tab := tabL [(26, c26)] t77
theorem t26o : t26.Ok Tryz.prog := tabL_ok t77o ⟨k26, trivial⟩
def c93 : Con := con (ac (aL .V) (a1 (aL .V))) (fun (a, b) => [a.length ≤ 1000, b.length ≤ 1000, (∀ v ∈ a, bd 1000000000 v), (∀ v ∈ b, bd 1000000000 v)]) (fun (a, b) => .bool (apartTR a b))
theorem k93 : c93.Ok Tryz.prog 93 := con_ok (cx_ok t26o) (raw := noRaw) (fun (a, b) => [lp 2 5 2 (fun n => [upto (fun j => rightR (swR a b j) (swR b a j) = false) n]) [] (fun n => [(0, .lst .V (swR a b n)), (1, .lst .V (swR b a n))]) (fun _ => []) fun n => [cnt 5 6 (swR a b n).length (upto fun i => rU (swR a b n) (swR b a n) i (swR b a n).length = false) fun i => [lp 9 8 (swR b a n).length (fun _ => []) [] (fun k => [(7, .bool (rU (swR a b n) (swR b a n) i k))]) (fun _ => [])]]]
  ) (fun (_, _) => ⟨_, rfl⟩) fun (a, b) hp => by_vc (q := (0 = (0 : Int) ∧ a = swR a b 0 ∧ b = swR b a 0 ∧ (0 : Nat) ≤ 2 ∧ upto (fun j => rightR (swR a b j) (swR b a j) = false) 0) ∧
 (∀ x : Nat, x ≤ 2 ∧ upto (fun j => rightR (swR a b j) (swR b a j) = false) x → ((x : Int) < 2 → (0 = (0 : Int) ∧ (0 : Nat) ≤ (swR a b x).length ∧ upto (fun i => rU (swR a b x) (swR b a x) i (swR b a x).length = false) 0) ∧
   (∀ x_1 : Nat, x_1 ≤ (swR a b x).length ∧ upto (fun i => rU (swR a b x) (swR b a x) i (swR b a x).length = false) x_1 → ((x_1 : Int) < (swR a b x).length → (0 = (0 : Int) ∧ true = rU (swR a b x) (swR b a x) x_1 0 ∧ (0 : Nat) ≤ (swR b a x).length) ∧
     (∀ x_2 : Nat, x_2 ≤ (swR b a x).length → ((x_2 : Int) < (swR b a x).length → (rU (swR a b x) (swR b a x) x_1 x_2 = true → ix (x_1 : Int) (swR a b x).length ∧ in64 ((x_1 : Int) + 1) ∧ ((swR a b x).length : Int) ≠ 0 ∧ ix (((x_1 + 1) % (swR a b x).length : Nat) : Int) (swR a b x).length ∧ ix (x_2 : Int) (swR b a x).length ∧ bd 1000000000 (nth (swR a b x) x_1) ∧ bd 1000000000 (nth (swR a b x) ((x_1 + 1) % (swR a b x).length)) ∧ bd 1000000000 (nth (swR b a x) x_2) ∧ in64 ((x_2 : Int) + 1) ∧ (x_2 : Int) + 1 = ((x_2 + 1 : Nat) : Int) ∧ decide (Geo.turn (nth (swR a b x) x_1) (nth (swR a b x) ((x_1 + 1) % (swR a b x).length)) (nth (swR b a x) x_2) ≤ 0) = rU (swR a b x) (swR b a x) x_1 (x_2 + 1) ∧ x_2 + 1 ≤ (swR b a x).length ∧ (swR b a x).length - (x_2 + 1) < (swR b a x).length - x_2) ∧
       (rU (swR a b x) (swR b a x) x_1 x_2 = false → in64 ((x_2 : Int) + 1) ∧ (x_2 : Int) + 1 = ((x_2 + 1 : Nat) : Int) ∧ false = rU (swR a b x) (swR b a x) x_1 (x_2 + 1) ∧ x_2 + 1 ≤ (swR b a x).length ∧ (swR b a x).length - (x_2 + 1) < (swR b a x).length - x_2)) ∧
      (¬ (x_2 : Int) < (swR b a x).length → (rU (swR a b x) (swR b a x) x_1 x_2 = true → true = apartTR a b) ∧
       (rU (swR a b x) (swR b a x) x_1 x_2 = false → in64 ((x_1 : Int) + 1) ∧ (x_1 : Int) + 1 = ((x_1 + 1 : Nat) : Int) ∧ x_1 + 1 ≤ (swR a b x).length ∧ upto (fun i => rU (swR a b x) (swR b a x) i (swR b a x).length = false) (x_1 + 1) ∧ (swR a b x).length - (x_1 + 1) < (swR a b x).length - x_1)))) ∧
    (¬ (x_1 : Int) < (swR a b x).length → in64 ((x : Int) + 1) ∧ (x : Int) + 1 = ((x + 1 : Nat) : Int) ∧ swR b a x = swR a b (x + 1) ∧ swR a b x = swR b a (x + 1) ∧ x + 1 ≤ 2 ∧ upto (fun j => rightR (swR a b j) (swR b a j) = false) (x + 1) ∧ 2 - (x + 1) < 2 - x))) ∧
  (¬ (x : Int) < 2 → false = apartTR a b))) (by kernel_rfl) (by
  change a.length ≤ 1000 ∧ b.length ≤ 1000 ∧ ((∀ v ∈ a, bd 1000000000 v)) ∧ ((∀ v ∈ b, bd 1000000000 v)) at hp
  obtain ⟨la, lb, va, vb⟩ := hp
  have l1 : ∀ n, (swR a b n).length ≤ 1000 := fun n => by unfold swR; split <;> assumption
  have l2 : ∀ n, (swR b a n).length ≤ 1000 := fun n => by unfold swR; split <;> assumption
  have v1 : ∀ n i, i < (swR a b n).length → bd 1000000000 (nth (swR a b n) i) := fun n i h => by
    have := Geo.nth_mem h; unfold swR at this ⊢; split at this <;> rename_i e
    · rw [if_pos e]; exact va _ this
    · rw [if_neg e]; exact vb _ this
  have v2 : ∀ n i, i < (swR b a n).length → bd 1000000000 (nth (swR b a n) i) := fun n i h => by
    have := Geo.nth_mem h; unfold swR at this ⊢; split at this <;> rename_i e
    · rw [if_pos e]; exact vb _ this
    · rw [if_neg e]; exact va _ this
  have z : ∀ A B : Ring, ∀ i, true = rU A B i 0 := fun A B i => rfl
  have us : ∀ (A B : Ring) (i k : Nat), rU A B i k = true → decide (Geo.turn (nth A i) (nth A ((i + 1) % A.length)) (nth B k) ≤ 0) = rU A B i (k + 1) := fun A B i k h => by rw [rU_succ, h, Bool.true_and]
  have uf : ∀ (A B : Ring) (i k : Nat), rU A B i k = false → false = rU A B i (k + 1) := fun A B i k h => by rw [rU_succ, h, Bool.false_and]
  have yes : ∀ n i k : Nat, (i : Int) < (swR a b n).length → ¬ (k : Int) < (swR b a n).length → k ≤ (swR b a n).length → rU (swR a b n) (swR b a n) i k = true → true = apartTR a b := fun n i k h1 h2 h3 h4 => by
    obtain rfl : k = (swR b a n).length := by omega
    exact apart_sw (n := n) (rightR_yes (by omega) h4)
  have no : ∀ n i k : Nat, ¬ (k : Int) < (swR b a n).length → k ≤ (swR b a n).length → rU (swR a b n) (swR b a n) i k = false → upto (fun i => rU (swR a b n) (swR b a n) i (swR b a n).length = false) i → upto (fun i => rU (swR a b n) (swR b a n) i (swR b a n).length = false) (i + 1) := fun n i k h2 h3 h4 h5 => by
    obtain rfl : k = (swR b a n).length := by omega
    exact upto_succ h5 h4
  have nx : ∀ n i : Nat, ¬ (i : Int) < (swR a b n).length → i ≤ (swR a b n).length → upto (fun i => rU (swR a b n) (swR b a n) i (swR b a n).length = false) i → upto (fun j => rightR (swR a b j) (swR b a j) = false) n → upto (fun j => rightR (swR a b j) (swR b a j) = false) (n + 1) := fun n i h1 h2 h3 h4 => by
    obtain rfl : i = (swR a b n).length := by omega
    exact upto_succ h4 (rightR_no h3)
  have fin : ∀ n : Nat, ¬ (n : Int) < 2 → n ≤ 2 → upto (fun j => rightR (swR a b j) (swR b a j) = false) n → false = apartTR a b := fun n h1 h2 h3 => by
    obtain rfl : n = 2 := by omega
    exact apart_no h3
  have e0 : a = swR a b 0 := rfl
  have e1 : b = swR b a 0 := rfl
  repeat' first | with_reducible apply And.intro | with_reducible intro
  all_goals repeat with_reducible cases ‹_ ∧ upto _ _›
  all_goals first | assumption | exact z _ _ _ | exact us _ _ _ _ ‹_› | exact uf _ _ _ _ ‹_› | exact yes _ _ _ ‹_› ‹_› ‹_› ‹_› | exact no _ _ _ ‹_› ‹_› ‹_› ‹_› | exact nx _ _ ‹_› ‹_› ‹_› ‹_› | exact fin _ ‹_› ‹_› ‹_› | exact swR_succ _ _ _ | exact upto_zero _ | exact v1 _ _ (by omega) | exact v2 _ _ (by omega) | exact v1 _ _ (Nat.mod_lt _ (by omega)) | exact ix_mod (by omega) | omega | (have := l1 ‹Nat›; unfold ix; omega) | (unfold in64; have h1 := l1; have h2 := l2; omega) | (unfold ix; omega) | (have h1 := l1; have h2 := l2; exact i64w (by grind)) | grind)
def t93 : Tab := tabL [(93, c93)] t26
theorem t93o : t93.Ok Tryz.prog := tabL_ok t26o ⟨k93, trivial⟩
def c94 : Con := con (a1 (aL .V)) (fun r => [r.length ≤ 100000]) (fun r => .int .i64 (if validR r = true then Geo.area r else 0)
  )
theorem k94 : c94.Ok Tryz.prog 94 := con_ok (cx_ok t93o) (raw := noRaw) (fun _ => []) (fun _ => ⟨_, rfl⟩) fun r hp => by_vc (q := r.length ≤ 100000 ∧ ((!validR r) = true → 0 = (if validR r = true then Geo.area r else 0)) ∧
 ((!validR r) = false → Geo.near r = true ∧ r.length ≤ 100000 ∧ Geo.area r = (if validR r = true then Geo.area r else 0))) (by kernel_rfl) (by
  change r.length ≤ 100000 at hp
  have e1 : (!validR r) = true → 0 = (if validR r = true then Geo.area r else 0) := fun h => by rw [nb' h]; rfl
  have e2 : (!validR r) = false → Geo.area r = (if validR r = true then Geo.area r else 0) := fun h => by rw [nb h]; rfl
  exact ⟨hp, e1, fun h => ⟨(validR_iff r |>.1 (nb h)).2.2.1, hp, e2 h⟩⟩)
def t94 : Tab := tabL [(94, c94)] t93
theorem t94o : t94.Ok Tryz.prog := tabL_ok t93o ⟨k94, trivial⟩
def c92 : Con := con (ac aSh (a1 (aL .V))) (fun (s, r) => [Fit s, 3 ≤ r.length, r.length ≤ 1000, (∀ v ∈ r, bd 10000 v), (edgesS s).length ≤ 1000000, (∀ e ∈ edgesS s, bd 10000 e.a ∧ bd 10000 e.b)]) (fun (s, r) => .bool (withinTR s r))
theorem k92 : c92.Ok Tryz.prog 92 := con_ok (cx_ok t94o) (raw := noRaw) (fun (s, r) => [cnt 3 6 (edgesS s).length (upto fun i => apartTR r [(nthS (edgesS s) i).a, (nthS (edgesS s) i).b] = true)]
  ) (fun (_, _) => ⟨_, rfl⟩) fun (s, r) hp => by_vc (q := Fit s ∧ (0 = (0 : Int) ∧ (0 : Nat) ≤ (edgesS s).length ∧ upto (fun i => apartTR r [(nthS (edgesS s) i).a, (nthS (edgesS s) i).b] = true) 0) ∧
 (∀ x : Nat, x ≤ (edgesS s).length ∧ upto (fun i => apartTR r [(nthS (edgesS s) i).a, (nthS (edgesS s) i).b] = true) x → ((x : Int) < (edgesS s).length → ix (x : Int) (edgesS s).length ∧ ix (x : Int) (edgesS s).length ∧ r.length ≤ 1000 ∧ [(nthS (edgesS s) x).a, (nthS (edgesS s) x).b].length ≤ 1000 ∧ (∀ v : Geo.V, v ∈ r → bd 1000000000 v) ∧ (∀ v : Geo.V, v ∈ [(nthS (edgesS s) x).a, (nthS (edgesS s) x).b] → bd 1000000000 v) ∧ ((!apartTR r [(nthS (edgesS s) x).a, (nthS (edgesS s) x).b]) = true → false = withinTR s r) ∧
   ((!apartTR r [(nthS (edgesS s) x).a, (nthS (edgesS s) x).b]) = false → in64 ((x : Int) + 1) ∧ (x : Int) + 1 = ((x + 1 : Nat) : Int) ∧ x + 1 ≤ (edgesS s).length ∧ upto (fun i => apartTR r [(nthS (edgesS s) i).a, (nthS (edgesS s) i).b] = true) (x + 1) ∧ (edgesS s).length - (x + 1) < (edgesS s).length - x)) ∧
  (¬ (x : Int) < (edgesS s).length → ((0 : Int) ≤ 3 ∧ 3 ≤ (r.length : Int)) ∧ (0 : Nat) < (List.take 3 r).length ∧ (List.take 3 r).length ≤ 1000 ∧ (∀ v : Geo.V, v ∈ List.take 3 r → bd 10000 v) ∧ Fit s ∧ decide (whereSR s (middleR (List.take 3 r)) = 2) = withinTR s r))) (by kernel_rfl) (by
  change Fit s ∧ 3 ≤ r.length ∧ r.length ≤ 1000 ∧ ((∀ v ∈ r, bd 10000 v)) ∧ (edgesS s).length ≤ 1000000 ∧ ((∀ e ∈ edgesS s, bd 10000 e.a ∧ bd 10000 e.b)) at hp
  obtain ⟨hf, l3, lr, vr, le, ve⟩ := hp
  have ve : ∀ x : Nat, (x : Int) < (edgesS s).length → ∀ v ∈ [(nthS (edgesS s) x).a, (nthS (edgesS s) x).b], bd 1000000000 v := fun x h v hv => by
    have := ve _ (List.getElem_mem (show x < (edgesS s).length by omega))
    rw [← nthS_eq (by omega)] at this
    rcases List.mem_cons.1 hv with rfl | hv
    · exact this.1.mono
    · rw [List.mem_singleton.1 hv]; exact this.2.mono
  have vr9 : ∀ v ∈ r, bd 1000000000 v := fun v hv => (vr v hv).mono
  have vt : ∀ v ∈ List.take 3 r, bd 10000 v := fun v hv => vr v (List.mem_of_mem_take hv)
  have lt : (List.take 3 r).length = 3 := by rw [List.length_take]; omega
  have no : ∀ x : Nat, (x : Int) < (edgesS s).length → (!apartTR r [(nthS (edgesS s) x).a, (nthS (edgesS s) x).b]) = true → false = withinTR s r := fun x h h2 => by
    unfold withinTR
    rw [show ((edgesS s).all fun e => apartTR r [e.a, e.b]) = false from List.all_eq_false.2 ⟨_, List.getElem_mem (show x < (edgesS s).length by omega), by
      rw [← nthS_eq (by omega), nb' h2]; simp⟩]
    rfl
  have yes : ∀ x : Nat, ¬ (x : Int) < (edgesS s).length → x ≤ (edgesS s).length → upto (fun i => apartTR r [(nthS (edgesS s) i).a, (nthS (edgesS s) i).b] = true) x → decide (whereSR s (middleR (List.take 3 r)) = 2) = withinTR s r := fun x h1 h2 h3 => by
    obtain rfl : x = (edgesS s).length := by omega
    unfold withinTR
    rw [show ((edgesS s).all fun e => apartTR r [e.a, e.b]) = true from List.all_eq_true.2 fun e he => by
      obtain ⟨j, hj, rfl⟩ := List.getElem_of_mem he
      have := h3 j hj
      dsimp only at this
      rw [nthS_eq hj] at this; exact this]
    rw [Bool.true_and, Bool.eq_iff_iff]; simp
  repeat' first | with_reducible apply And.intro | with_reducible intro
  all_goals repeat with_reducible cases ‹_ ∧ _›
  all_goals first | assumption | rfl | exact trivial | exact nb ‹_› | exact nb' ‹_› | omega | exact ix_mod (by omega) | (unfold ix; omega) | (unfold in64; omega) | exact upto_zero _ | exact upto_succ ‹_› ‹_› | (refine upto_succ ‹_› ?_; simp_all; done) | exact ve _ ‹_› _ ‹_› | exact no _ ‹_› ‹_› | exact yes _ ‹_› ‹_› ‹_› | exact Nat.le_of_lt (by decide) | (show 2 ≤ 1000; omega) | exact upto_succ ‹_› (nb ‹_›) | grind)
def t92 : Tab := tabL [(92, c92)] t94
end
end Go.Proofs.YtdaeofhdgabhjaaGreat
namespace Go.Proofs.YtdaeofhdgabhjaaGreat
open Go.RowKit
set_option maxRecDepth 100000
noncomputable section
open Geo (Ring Shape apartTR cmpRing edgesS nth nthR overlapP validR validSP validSR withinTR)
def arH (s : Shape) (k : Nat) : Int := Geo.area s.outer - ((s.holes.take k).map Geo.area).sum
def fndU (l : List Geo.V) (v : Geo.V) (k : Nat) : Bool := (l.take k).any fun u => decide (u = v)
theorem fndU_succ {l : List Geo.V} {v : Geo.V} {k : Nat} (h : k < l.length) : fndU l v (k + 1) = (fndU l v k || decide (nth l k = v)) := by
  unfold fndU; rw [List.take_succ_eq_append_getElem h, List.any_append, nth_eq h]; simp
theorem fndU_all (l : List Geo.V) (v : Geo.V) : fndU l v l.length = !fgn l v := by
  unfold fndU fgn; rw [List.take_length, Bool.not_not]
  congr 1; funext u; exact decide_eq_decide.2 eq_comm
def ckR (s : Shape) (r : Ring) : Bool := (decide (¬ (r.length : Int) = 3) || (!validR r || !withinTR s r))
def tA : Tab := tabL [(26, c26), (92, c92), (93, c93), (94, c94)] t15
theorem tAo : tA.Ok Tryz.prog := tabL_ok t15o ⟨k26, k92, k93, k94, trivial⟩
def c95 : Con := con (a1 aSh) (fun s => [Fit s]) (fun s => .int .i64 (if validSR s = true then areaSh s else 0))
theorem k95 : c95.Ok Tryz.prog 95 := con_ok (cx_ok tAo) (raw := noRaw) (fun s => [lp 5 4 s.holes.length (fun _ => []) [] (fun k => [(3, .int .i64 (arH s k))]) (fun _ => [])]
  ) (fun _ => ⟨_, rfl⟩) fun s hp => by_vc (q := Fit s ∧ ((!validSR s) = true → 0 = (if validSR s = true then areaSh s else 0)) ∧
 ((!validSR s) = false → Geo.near s.outer = true ∧ s.outer.length ≤ 100000 ∧ (0 = (0 : Int) ∧ Geo.area s.outer = arH s 0 ∧ (0 : Nat) ≤ s.holes.length) ∧
  (∀ x : Nat, x ≤ s.holes.length → ((x : Int) < s.holes.length → ix (x : Int) s.holes.length ∧ Geo.near (nthR s.holes x) = true ∧ (nthR s.holes x).length ≤ 100000 ∧ in64 (arH s x - Geo.area (nthR s.holes x)) ∧ in64 ((x : Int) + 1) ∧ (x : Int) + 1 = ((x + 1 : Nat) : Int) ∧ arH s x - Geo.area (nthR s.holes x) = arH s (x + 1) ∧ x + 1 ≤ s.holes.length ∧ s.holes.length - (x + 1) < s.holes.length - x) ∧
   (¬ (x : Int) < s.holes.length → arH s x = (if validSR s = true then areaSh s else 0))))) (by kernel_rfl) (by
  change Fit s at hp
  have V : (!validSR s) = false → Geo.VS s := fun h => vsR (nb h)
  have e1 : (!validSR s) = true → 0 = (if validSR s = true then areaSh s else 0) := fun h => by rw [nb' h]; rfl
  have eh : (!validSR s) = false → ∀ x : Nat, x < s.holes.length → Geo.VR (nthR s.holes x) := fun h x hx => (V h).hole x hx
  have n1 : (!validSR s) = false → Geo.near s.outer = true ∧ s.outer.length ≤ 100000 := fun h => ⟨(V h).outer.near, by have := (V h).outer.most; omega⟩
  have n2 : (!validSR s) = false → ∀ x : Nat, (x : Int) < s.holes.length → Geo.near (nthR s.holes x) = true ∧ (nthR s.holes x).length ≤ 100000 := fun h x hx => ⟨(eh h x (by omega)).near, by have := (eh h x (by omega)).most; omega⟩
  have z : Geo.area s.outer = arH s 0 := by unfold arH; simp
  have st : ∀ x : Nat, (x : Int) < s.holes.length → arH s x - Geo.area (nthR s.holes x) = arH s (x + 1) := fun x hx => by
    unfold arH
    rw [List.take_succ_eq_append_getElem (by omega), List.map_append, List.sum_append, nthR_eq (by omega)]
    simp only [List.map_cons, List.map_nil, List.sum_cons, List.sum_nil]; omega
  have bd0 : ∀ r : Ring, Geo.VR r → -8000000000 ≤ Geo.area r ∧ Geo.area r ≤ 8000000000 := fun r h => area_bd ((Geo.validP_iff r).2 h)
  have bS : (!validSR s) = false → ∀ x : Nat, x ≤ s.holes.length → -(8000000000 * ((x : Int) + 1)) ≤ arH s x ∧ arH s x ≤ 8000000000 * ((x : Int) + 1) := fun h x => by
    induction x with
    | zero => intro _; rw [← z]; have := bd0 _ (V h).outer; omega
    | succ x ih =>
      intro hx
      have h1 := ih (by omega)
      have h2 := bd0 _ (eh h x (by omega))
      rw [← st x (by omega)]; omega
  have w : (!validSR s) = false → ∀ x : Nat, (x : Int) < s.holes.length → in64 (arH s x - Geo.area (nthR s.holes x)) := fun h x hx => by
    have h1 := bS h x (by omega)
    have h2 := bd0 _ (eh h x (by omega))
    have := (V h).few
    exact i64w (by omega)
  have wx : (!validSR s) = false → ∀ x : Nat, (x : Int) < s.holes.length → in64 ((x : Int) + 1) := fun h x hx => i64w (by have := (V h).few; omega)
  have f : (!validSR s) = false → ∀ x : Nat, ¬ (x : Int) < s.holes.length → x ≤ s.holes.length → arH s x = (if validSR s = true then areaSh s else 0) := fun h x h1 h2 => by
    obtain rfl : x = s.holes.length := by omega
    rw [nb h, if_pos rfl]; unfold arH areaSh; rw [List.take_length]
  clear bS eh V
  repeat' first | with_reducible apply And.intro | with_reducible intro
  all_goals first | assumption | rfl | exact e1 ‹_› | exact (n1 ‹_›).1 | exact (n1 ‹_›).2 | exact (n2 ‹_› _ ‹_›).1 | exact (n2 ‹_› _ ‹_›).2 | exact st _ ‹_› | exact w ‹_› _ ‹_› | exact wx ‹_› _ ‹_› | exact f ‹_› _ ‹_› ‹_› | omega | (unfold ix; omega))
def t95 : Tab := tabL [(95, c95)] tA
theorem t95o : t95.Ok Tryz.prog := tabL_ok tAo ⟨k95, trivial⟩
def c29 : Con := con (ac aSh (a1 (aL .R))) (fun (s, l) => [Fit s, l.length ≤ 1000, (∀ r ∈ l, r.length ≤ 1000)]) (fun (s, l) => .bool (checkP s l))
set_option maxHeartbeats 1000000 in
theorem k29 : c29.Ok Tryz.prog 29 := con_ok (cx_ok t95o) (raw := noRaw) (fun (s, l) => [lp 6 8 l.length (fun k => [upto (ck s l) k]) [] (fun k => [(7, .int .i64 (a2S l k))]) (fun _ => []) fun k => [jb 9 48 (ckR s (nthR l k)), cnt 11 9 3 (upto fun j => fgn (vOf s) (nth (nthR l k) j) = false) fun j => [lp 15 11 (vOf s).length (fun _ => []) [] (fun n => [(10, .bool (fndU (vOf s) (nth (nthR l k) j) n))]) (fun _ => [])], cnt 21 12 k (upto fun j => apartTR (nthR l k) (nthR l j) = true)]]
  ) (fun (_, _) => ⟨_, rfl⟩) fun (s, l) hp => by_vc (q := Fit s ∧ (¬ eOf s = 0 → false = checkP s l) ∧
 (¬ (¬ eOf s = 0) → (0 = (0 : Int) ∧ 0 = a2S l 0 ∧ (0 : Nat) ≤ l.length ∧ upto (ck s l) 0) ∧
  (∀ x : Nat, x ≤ l.length ∧ upto (ck s l) x → ((x : Int) < l.length → (ix (x : Int) l.length ∧ (¬ ((nthR l x).length : Int) = 3 → true = ckR s (nthR l x)) ∧
     (¬ (¬ ((nthR l x).length : Int) = 3) → ix (x : Int) l.length ∧ (nthR l x).length ≤ 100000 ∧ ((!validR (nthR l x)) = true → true = ckR s (nthR l x)) ∧
      ((!validR (nthR l x)) = false → ix (x : Int) l.length ∧ Fit s ∧ (3 : Nat) ≤ (nthR l x).length ∧ (nthR l x).length ≤ 1000 ∧ (∀ v : Geo.V, v ∈ nthR l x → bd 10000 v) ∧ (edgesS s).length ≤ 1000000 ∧ (∀ e : Geo.S, e ∈ edgesS s → bd 10000 e.a ∧ bd 10000 e.b) ∧ (!withinTR s (nthR l x)) = ckR s (nthR l x)))) ∧
    (∀ y : Unit, (ckR s (nthR l x) = true → false = checkP s l) ∧
     (ckR s (nthR l x) = false → (0 = (0 : Int) ∧ (0 : Nat) ≤ 3 ∧ upto (fun j => fgn (vOf s) (nth (nthR l x) j) = false) 0) ∧
      (∀ x_1 : Nat, x_1 ≤ 3 ∧ upto (fun j => fgn (vOf s) (nth (nthR l x) j) = false) x_1 → ((x_1 : Int) < 3 → (0 = (0 : Int) ∧ false = fndU (vOf s) (nth (nthR l x) x_1) 0 ∧ (0 : Nat) ≤ (vOf s).length) ∧
        (∀ x_2 : Nat, x_2 ≤ (vOf s).length → ((x_2 : Int) < (vOf s).length → (fndU (vOf s) (nth (nthR l x) x_1) x_2 = true → in64 ((x_2 : Int) + 1) ∧ (x_2 : Int) + 1 = ((x_2 + 1 : Nat) : Int) ∧ true = fndU (vOf s) (nth (nthR l x) x_1) (x_2 + 1) ∧ x_2 + 1 ≤ (vOf s).length ∧ (vOf s).length - (x_2 + 1) < (vOf s).length - x_2) ∧
          (fndU (vOf s) (nth (nthR l x) x_1) x_2 = false → ix (x_2 : Int) (vOf s).length ∧ ix (x : Int) l.length ∧ ix (x_1 : Int) (nthR l x).length ∧ in64 ((x_2 : Int) + 1) ∧ (x_2 : Int) + 1 = ((x_2 + 1 : Nat) : Int) ∧ decide ((nth (vOf s) x_2) = (nth (nthR l x) x_1)) = fndU (vOf s) (nth (nthR l x) x_1) (x_2 + 1) ∧ x_2 + 1 ≤ (vOf s).length ∧ (vOf s).length - (x_2 + 1) < (vOf s).length - x_2)) ∧
         (¬ (x_2 : Int) < (vOf s).length → ((!fndU (vOf s) (nth (nthR l x) x_1) x_2) = true → false = checkP s l) ∧
          ((!fndU (vOf s) (nth (nthR l x) x_1) x_2) = false → in64 ((x_1 : Int) + 1) ∧ (x_1 : Int) + 1 = ((x_1 + 1 : Nat) : Int) ∧ x_1 + 1 ≤ 3 ∧ upto (fun j => fgn (vOf s) (nth (nthR l x) j) = false) (x_1 + 1) ∧ 3 - (x_1 + 1) < 3 - x_1)))) ∧
       (¬ (x_1 : Int) < 3 → (0 = (0 : Int) ∧ (0 : Nat) ≤ x ∧ upto (fun j => apartTR (nthR l x) (nthR l j) = true) 0) ∧
        (∀ x_2 : Nat, x_2 ≤ x ∧ upto (fun j => apartTR (nthR l x) (nthR l j) = true) x_2 → ((x_2 : Int) < x → ix (x : Int) l.length ∧ ix (x_2 : Int) l.length ∧ (nthR l x).length ≤ 1000 ∧ (nthR l x_2).length ≤ 1000 ∧ (∀ v : Geo.V, v ∈ nthR l x → bd 1000000000 v) ∧ (∀ v : Geo.V, v ∈ nthR l x_2 → bd 1000000000 v) ∧ ((!apartTR (nthR l x) (nthR l x_2)) = true → false = checkP s l) ∧
          ((!apartTR (nthR l x) (nthR l x_2)) = false → in64 ((x_2 : Int) + 1) ∧ (x_2 : Int) + 1 = ((x_2 + 1 : Nat) : Int) ∧ x_2 + 1 ≤ x ∧ upto (fun j => apartTR (nthR l x) (nthR l j) = true) (x_2 + 1) ∧ x - (x_2 + 1) < x - x_2)) ∧
         (¬ (x_2 : Int) < x → ix (x : Int) l.length ∧ (nthR l x).length ≤ 100000 ∧ in64 (a2S l x + (if validR (nthR l x) = true then Geo.area (nthR l x) else 0)) ∧ in64 ((x : Int) + 1) ∧ (x : Int) + 1 = ((x + 1 : Nat) : Int) ∧ a2S l x + (if validR (nthR l x) = true then Geo.area (nthR l x) else 0) = a2S l (x + 1) ∧ x + 1 ≤ l.length ∧ upto (ck s l) (x + 1) ∧ l.length - (x + 1) < l.length - x))))))) ∧
   (¬ (x : Int) < l.length → Fit s ∧ decide (a2S l x = (if validSR s = true then areaSh s else 0)) = checkP s l)))) (by kernel_rfl) (by
  change Fit s ∧ l.length ≤ 1000 ∧ ((∀ r ∈ l, r.length ≤ 1000)) at hp
  obtain ⟨hf, hl, hr⟩ := hp
  have hr : ∀ x : Nat, (x : Int) < l.length → (nthR l x).length ≤ 1000 := fun x h => hr _ (Geo.nthR_mem (by omega))
  have hr5 : ∀ x : Nat, (x : Int) < l.length → (nthR l x).length ≤ 100000 := fun x h => by have := hr x h; omega
  have R : ¬ ¬ eOf s = 0 → validSR s = true := fun h => eOf_yes h
  have hvP : ¬ ¬ eOf s = 0 → validSP s = true := fun h => by rw [Geo.validS_eq]; exact R h
  have V : ¬ ¬ eOf s = 0 → Geo.VS s := fun h => vsR (R h)
  have hv := vOf_le s
  have he : ¬ ¬ eOf s = 0 → (edgesS s).length ≤ 1000000 := fun h => by have := vs_edgesLen (V h); omega
  have hw : ¬ ¬ eOf s = 0 → ∀ e ∈ edgesS s, bd 10000 e.a ∧ bd 10000 e.b := fun h e hm => ⟨bd_of (vs_edges (V h) e hm).1, bd_of (vs_edges (V h) e hm).2⟩
  have hw1 : ¬ ¬ eOf s = 0 → ∀ e ∈ edgesS s, bd 10000 e.a := fun h e hm => (hw h e hm).1
  have hw2 : ¬ ¬ eOf s = 0 → ∀ e ∈ edgesS s, bd 10000 e.b := fun h e hm => (hw h e hm).2
  have c0 : ¬ eOf s = 0 → false = checkP s l := fun h => by
    unfold checkP
    rw [Geo.validS_eq]
    cases e : validSR s with
    | false => rfl
    | true => exact absurd (by unfold eOf; rw [e]; rfl) h
  have a1 : ∀ x : Nat, ¬ ((nthR l x).length : Int) = 3 → true = ckR s (nthR l x) := fun x h => by unfold ckR; rw [decide_eq_true h]; rfl
  have a2' : ∀ x : Nat, (!validR (nthR l x)) = true → true = ckR s (nthR l x) := fun x h => by unfold ckR; rw [h]; simp
  have a4 : ∀ x : Nat, ¬ ¬ ((nthR l x).length : Int) = 3 → (!validR (nthR l x)) = false → (!withinTR s (nthR l x)) = ckR s (nthR l x) := fun x h1 h2 => by
    unfold ckR; rw [decide_eq_false h1, h2]; rfl
  have kV : ∀ r : Ring, ckR s r = false → Geo.validP r = true ∧ r.length = 3 ∧ withinTR s r = true := fun r h => by
    unfold ckR at h
    rw [Geo.valid_eq]
    cases e : validR r <;> cases e2 : withinTR s r <;> rw [e, e2] at h <;> simp at h ⊢ <;> omega
  have vB : ∀ r : Ring, Geo.validP r = true → ∀ v ∈ r, bd 10000 v := fun r h v hv => bd_of (vr_mem ((Geo.validP_iff r).1 h) hv)
  have vB4 : ∀ x : Nat, (!validR (nthR l x)) = false → ∀ v ∈ nthR l x, bd 10000 v := fun x h => vB _ (by rw [Geo.valid_eq]; exact nb h)
  have vB9 : ∀ x : Nat, ckR s (nthR l x) = false → ∀ v ∈ nthR l x, bd 1000000000 v := fun x h v hv => (vB _ (kV _ h).1 v hv).mono
  have l3 : ∀ x : Nat, ckR s (nthR l x) = false → ∀ j : Nat, (j : Int) < 3 → ix (j : Int) (nthR l x).length := fun x h j hj => by have := (kV _ h).2.1; unfold ix; omega
  have l3' : ∀ x : Nat, ¬ ¬ ((nthR l x).length : Int) = 3 → 3 ≤ (nthR l x).length := fun x h => by omega
  have kA : ¬ ¬ eOf s = 0 → ∀ r : Ring, ckA s r = (ckR s r || r.any (fgn (vOf s))) := fun h r => by
    unfold ckA ckR
    rw [Geo.valid_eq]
    cases e3 : decide (¬ (r.length : Int) = 3) with
    | true => rfl
    | false =>
      cases e : validR r with
      | false => rfl
      | true =>
        have h3 : r.length = 3 := by have := of_decide_eq_false e3; omega
        rw [Geo.within_eq (V h) (by rw [Geo.valid_eq]; exact e) h3]
        cases r.any (fgn (vOf s)) <;> cases withinTR s r <;> rfl
  have kB : ∀ x : Nat, upto (ck s l) x → Geo.validP (nthR l x) = true ∧ (nthR l x).length = 3 → ∀ j, j < x → overlapP (nthR l x) (nthR l j) = !apartTR (nthR l x) (nthR l j) := fun x hu h j hj => by
    have := (hu j hj).1
    unfold ckA at this
    have g : Geo.validP (nthR l j) = true ∧ (nthR l j).length = 3 := by
      cases e : Geo.validP (nthR l j) <;> rw [e] at this <;> simp at this ⊢; omega
    exact Geo.overlap_eq h.1 g.1 h.2 g.2
  have no : ∀ x : Nat, (x : Int) < l.length → (ckA s (nthR l x) = true ∨ ckB l x = true) → false = checkP s l := fun x h h2 => by
    unfold checkP
    rw [show ((List.range l.length).all fun i => !ckA s (nthR l i) && !ckB l i) = false from List.all_eq_false.2 ⟨x, List.mem_range.2 (by omega), by
      rcases h2 with h2 | h2
      · rw [h2]; simp
      · rw [h2]; simp⟩]
    simp
  have no1 : ¬ ¬ eOf s = 0 → ∀ x : Nat, (x : Int) < l.length → ckR s (nthR l x) = true → false = checkP s l := fun h x hx h1 => no x hx (.inl (by rw [kA h, h1]; rfl))
  have no2 : ¬ ¬ eOf s = 0 → ∀ x j k : Nat, (x : Int) < l.length → ckR s (nthR l x) = false → (j : Int) < 3 → ¬ (k : Int) < (vOf s).length → k ≤ (vOf s).length → (!fndU (vOf s) (nth (nthR l x) j) k) = true → false = checkP s l := fun h x j k hx h1 hj hk1 hk2 h2 => no x hx (.inl (by
    obtain rfl : k = (vOf s).length := by omega
    rw [fndU_all, Bool.not_not] at h2
    rw [kA h, h1, Bool.false_or]
    have := (kV _ h1).2.1
    exact List.any_eq_true.2 ⟨_, Geo.nth_mem (show j < (nthR l x).length by omega), h2⟩))
  have ok2 : ∀ x j k : Nat, ¬ (k : Int) < (vOf s).length → k ≤ (vOf s).length → (!fndU (vOf s) (nth (nthR l x) j) k) = false → upto (fun j => fgn (vOf s) (nth (nthR l x) j) = false) j → upto (fun j => fgn (vOf s) (nth (nthR l x) j) = false) (j + 1) := fun x j k hk1 hk2 h2 hu => by
    obtain rfl : k = (vOf s).length := by omega
    rw [fndU_all, Bool.not_not] at h2
    exact upto_succ hu h2
  have no3 : ∀ x j : Nat, (x : Int) < l.length → upto (ck s l) x → ckR s (nthR l x) = false → (j : Int) < x → (!apartTR (nthR l x) (nthR l j)) = true → false = checkP s l := fun x j hx hu h1 hj h2 => no x hx (.inr (by
    unfold ckB
    have hk := kV _ h1
    rw [← kB x hu ⟨hk.1, hk.2.1⟩ j (by omega)] at h2
    refine List.any_eq_true.2 ⟨nthR l j, ?_, h2⟩
    have : (l.take x)[j]'(by rw [List.length_take]; omega) = nthR l j := by rw [List.getElem_take, ← nthR_eq (by omega)]
    rw [← this]; exact List.getElem_mem _))
  have okS : ¬ ¬ eOf s = 0 → ∀ x j k : Nat, (x : Int) < l.length → upto (ck s l) x → ckR s (nthR l x) = false → ¬ (j : Int) < 3 → j ≤ 3 → upto (fun j => fgn (vOf s) (nth (nthR l x) j) = false) j → ¬ (k : Int) < x → k ≤ x → upto (fun j => apartTR (nthR l x) (nthR l j) = true) k → upto (ck s l) (x + 1) := fun h x j k hx hu h1 hj1 hj2 hj hk1 hk2 hk => by
    obtain rfl : j = 3 := by omega
    obtain rfl : k = x := by omega
    have hkv := kV _ h1
    refine upto_succ hu ⟨?_, ?_⟩
    · rw [kA h, h1, Bool.false_or]
      refine List.any_eq_false.2 fun v hv => ?_
      obtain ⟨i, hi, rfl⟩ := Geo.mem_nth.1 hv
      rw [hj i (by omega)]; simp
    · unfold ckB
      refine List.any_eq_false.2 fun o ho => ?_
      obtain ⟨i, hi, rfl⟩ := List.getElem_of_mem ho
      rw [List.length_take] at hi
      rw [List.getElem_take, ← nthR_eq (by omega), kB k hu ⟨hkv.1, hkv.2.1⟩ i (by omega), hk i (by omega)]; simp
  have sS : ∀ x : Nat, (x : Int) < l.length → a2S l x + (if validR (nthR l x) = true then Geo.area (nthR l x) else 0) = a2S l (x + 1) := fun x h => by
    rw [← Geo.valid_eq]
    unfold a2S
    rw [List.take_succ_eq_append_getElem (by omega), List.map_append, List.sum_append, nthR_eq (by omega)]; simp [a2]
  have b1 : ∀ r : Ring, -8000000000 ≤ (if validR r = true then Geo.area r else 0) ∧ (if validR r = true then Geo.area r else 0) ≤ 8000000000 := fun r => by
    split
    · rename_i h; rw [← Geo.valid_eq] at h; exact area_bd h
    · omega
  have bS : ∀ x : Nat, x ≤ l.length → -(8000000000 * (x : Int)) ≤ a2S l x ∧ a2S l x ≤ 8000000000 * (x : Int) := fun x => by
    induction x with
    | zero => intro _; unfold a2S; simp
    | succ x ih =>
      intro h
      have h1 := ih (by omega)
      have h2 := b1 (nthR l x)
      rw [← sS x (by omega)]; omega
  have wS : ∀ x : Nat, (x : Int) < l.length → in64 (a2S l x + (if validR (nthR l x) = true then Geo.area (nthR l x) else 0)) := fun x h => by
    have h1 := bS x (by omega)
    have h2 := b1 (nthR l x)
    exact i64w (by omega)
  have yE : ¬ ¬ eOf s = 0 → ∀ x : Nat, ¬ (x : Int) < l.length → x ≤ l.length → upto (ck s l) x → decide (a2S l x = (if validSR s = true then areaSh s else 0)) = checkP s l := fun h x h1 h2 h3 => by
    obtain rfl : x = l.length := by omega
    unfold checkP
    rw [if_pos (R h), hvP h, show ((List.range l.length).all fun i => !ckA s (nthR l i) && !ckB l i) = true from List.all_eq_true.2 fun i hi => by
      obtain ⟨g1, g2⟩ := h3 i (List.mem_range.1 hi)
      rw [g1, g2]; rfl]
    simp
  have z0 : ∀ v, false = fndU (vOf s) v 0 := fun v => rfl
  have f1 : ∀ (v : Geo.V) (k : Nat), (k : Int) < (vOf s).length → fndU (vOf s) v k = true → true = fndU (vOf s) v (k + 1) := fun v k h h2 => by rw [fndU_succ (by omega), h2]; rfl
  have f2 : ∀ (v : Geo.V) (k : Nat), (k : Int) < (vOf s).length → fndU (vOf s) v k = false → decide (nth (vOf s) k = v) = fndU (vOf s) v (k + 1) := fun v k h h2 => by rw [fndU_succ (by omega), h2]; rfl
  have ckj : ∀ x : Nat, upto (ck s l) x → ∀ j : Nat, (j : Int) < x → ∀ v ∈ nthR l j, bd 1000000000 v := fun x hu j hj v hv => by
    have := (hu j (by omega)).1
    unfold ckA at this
    have g : Geo.validP (nthR l j) = true := by cases e : Geo.validP (nthR l j) <;> rw [e] at this <;> simp at this ⊢
    exact (vB _ g v hv).mono
  have hrj : ∀ x : Nat, (x : Int) < l.length → ∀ j : Nat, (j : Int) < x → (nthR l j).length ≤ 1000 := fun x h j hj => hr j (by omega)
  clear V kV b1 bS hvP R kA kB no hw vB
  repeat' first | with_reducible apply And.intro | with_reducible intro
  all_goals repeat with_reducible cases ‹_ ∧ upto _ _›
  all_goals first | assumption | with_reducible rfl | (with_reducible exact c0 ‹_›) | (with_reducible exact he ‹_›) | (with_reducible exact hw1 ‹_› _ ‹_›) | (with_reducible exact hw2 ‹_› _ ‹_›) | (with_reducible exact hr _ ‹_›) | (with_reducible exact hr5 _ ‹_›) | (with_reducible exact hrj _ ‹_› _ ‹_›) | (with_reducible exact a1 _ ‹_›) | (with_reducible exact a2' _ ‹_›) | (with_reducible exact a4 _ ‹_› ‹_›) | (with_reducible exact vB4 _ ‹_› _ ‹_›) | (with_reducible exact vB9 _ ‹_› _ ‹_›) | (with_reducible exact ckj _ ‹_› _ ‹_› _ ‹_›) | (with_reducible exact l3 _ ‹_› _ ‹_›) | (with_reducible exact l3' _ ‹_›) | (with_reducible exact no1 ‹_› _ ‹_› ‹_›) | (with_reducible exact no2 ‹_› _ _ _ ‹_› ‹_› ‹_› ‹_› ‹_› ‹_›) | (with_reducible exact ok2 _ _ _ ‹_› ‹_› ‹_› ‹_›) | (with_reducible exact no3 _ _ ‹_› ‹_› ‹_› ‹_› ‹_›) | (with_reducible exact okS ‹_› _ _ _ ‹_› ‹_› ‹_› ‹_› ‹_› ‹_› ‹_› ‹_› ‹_›) | (with_reducible exact sS _ ‹_›) | (with_reducible exact wS _ ‹_›) | (with_reducible exact yE ‹_› _ ‹_› ‹_› ‹_›) | exact z0 _ | exact f1 _ _ ‹_› ‹_› | exact f2 _ _ ‹_› ‹_› | exact upto_zero _ | exact upto_succ ‹_› (nb ‹_›) | omega | (unfold ix; omega) | (unfold in64; omega) | rfl)
def t29 : Tab := tabL [(29, c29)] t95
theorem t29o : t29.Ok Tryz.prog := tabL_ok t95o ⟨k29, trivial⟩
theorem cmpRing_range : ∀ (a b : Ring), -1 ≤ cmpRing a b ∧ cmpRing a b ≤ 1
  | [], [] => by decide
  | [], _ :: _ => by unfold cmpRing; decide
  | _ :: _, [] => by unfold cmpRing; decide
  | x :: a, y :: b => by
    unfold cmpRing
    split
    · have := Geo.cmpV_range x y; omega
    · exact cmpRing_range a b
def c4 : Con := con (ac aSh (a1 (aL .R))) (fun (s, l) => [BigOk s, FewL l]) (fun (_, _) => .bool true)
theorem k4 : c4.Ok Tryz.prog 4 := con_ok (cx_ok t29o) (raw := noRaw) (fun (_, l) => [cnt 6 18 l.length (upto fun j => (nthR l j).length ≤ 60)]
  ) (fun (_, _) => ⟨_, rfl⟩) fun (s, l) hp => by_vc (q := ((!true) = true → false = true) ∧
 ((!true) = false → BigOk s ∧ ((!fewW s) = true → true = true) ∧
  ((!fewW s) = false → (25 < (l.length : Int) → true = true) ∧
   (¬ 25 < (l.length : Int) → (0 = (0 : Int) ∧ (0 : Nat) ≤ l.length ∧ upto (fun j => (nthR l j).length ≤ 60) 0) ∧
    (∀ x : Nat, x ≤ l.length ∧ upto (fun j => (nthR l j).length ≤ 60) x → ((x : Int) < l.length → ix (x : Int) l.length ∧ (60 < ((nthR l x).length : Int) → true = true) ∧
      (¬ 60 < ((nthR l x).length : Int) → in64 ((x : Int) + 1) ∧ (x : Int) + 1 = ((x + 1 : Nat) : Int) ∧ x + 1 ≤ l.length ∧ upto (fun j => (nthR l j).length ≤ 60) (x + 1) ∧ l.length - (x + 1) < l.length - x)) ∧
     (¬ (x : Int) < l.length → (2 ≤ (l.length : Int) → ix 0 l.length ∧ ix 1 l.length ∧ (nthR l 0).length ≤ 1000000 ∧ (nthR l 1).length ≤ 1000000 ∧ ix 0 l.length ∧ ix 1 l.length ∧ (nthR l 0).length ≤ 1000000 ∧ (nthR l 1).length ≤ 1000000 ∧ (¬ cmpRing (nthR l 0) (nthR l 1) = cmpRing (nthR l 0) (nthR l 1) → false = true) ∧
       (¬ (¬ cmpRing (nthR l 0) (nthR l 1) = cmpRing (nthR l 0) (nthR l 1)) → ix 1 l.length ∧ ix 0 l.length ∧ (nthR l 1).length ≤ 1000000 ∧ (nthR l 0).length ≤ 1000000 ∧ ix 0 l.length ∧ ix 1 l.length ∧ (nthR l 0).length ≤ 1000000 ∧ (nthR l 1).length ≤ 1000000 ∧ in64 (0 - cmpRing (nthR l 0) (nthR l 1)) ∧ (¬ cmpRing (nthR l 1) (nthR l 0) = 0 - cmpRing (nthR l 0) (nthR l 1) → false = true) ∧
        (¬ (¬ cmpRing (nthR l 1) (nthR l 0) = 0 - cmpRing (nthR l 0) (nthR l 1)) → Fit s ∧ l.length ≤ 1000 ∧ (∀ r : Ring, r ∈ l → r.length ≤ 1000) ∧ Fit s ∧ l.length ≤ 1000 ∧ (∀ r : Ring, r ∈ l → r.length ≤ 1000) ∧ (checkP s l == checkP s l) = true))) ∧
      (¬ 2 ≤ (l.length : Int) → Fit s ∧ l.length ≤ 1000 ∧ (∀ r : Ring, r ∈ l → r.length ≤ 1000) ∧ Fit s ∧ l.length ≤ 1000 ∧ (∀ r : Ring, r ∈ l → r.length ≤ 1000) ∧ (checkP s l == checkP s l) = true))))))) (by kernel_rfl) (by
  change BigOk s ∧ FewL l at hp
  obtain ⟨hb, hl, hr⟩ := hp
  have hf : (!fewW s) = false → Fit s := fun h => fewW_fit hb (nb h)
  have q : ∀ x : Nat, x ≤ l.length → ¬ (x : Int) < l.length → upto (fun j => (nthR l j).length ≤ 60) x → ∀ r ∈ l, r.length ≤ 1000 := fun x h1 h2 h3 r hr => by
    obtain ⟨j, hj, rfl⟩ := Geo.mem_nthR hr
    have := h3 j (by omega)
    dsimp only at this; omega
  have q2 : ∀ x : Nat, x ≤ l.length → ¬ (x : Int) < l.length → upto (fun j => (nthR l j).length ≤ 60) x → ∀ j : Nat, (j : Int) < l.length → (nthR l j).length ≤ 1000000 := fun x h1 h2 h3 j hj => by
    have := h3 j (by omega)
    dsimp only at this; omega
  have sw := Geo.cmpRing_swap (nthR l 0) (nthR l 1)
  have rg : -1 ≤ cmpRing (nthR l 0) (nthR l 1) ∧ cmpRing (nthR l 0) (nthR l 1) ≤ 1 := cmpRing_range _ _
  have wC : in64 (0 - cmpRing (nthR l 0) (nthR l 1)) := i64w (by omega)
  have n1 : ¬ ¬ cmpRing (nthR l 1) (nthR l 0) = 0 - cmpRing (nthR l 0) (nthR l 1) := fun h => h (by omega)
  have b3 : (checkP s l == checkP s l) = true := beq_self_eq_true _
  repeat' first | with_reducible apply And.intro | with_reducible intro
  all_goals repeat with_reducible cases ‹_ ∧ upto _ _›
  all_goals first | assumption | exact absurd rfl ‹_› | exact absurd ‹_› n1 | exact hf ‹_› | exact q _ ‹_› ‹_› ‹_› _ ‹_› | exact q2 _ ‹_› ‹_› ‹_› _ (by omega) | exact upto_zero _ | (refine upto_succ ‹_› ?_; omega) | omega | (unfold ix; omega) | (unfold in64; omega) | rfl)
def t4 : Tab := tabL [(4, c4)] t29
end
end Go.Proofs.YtdaeofhdgabhjaaGreat
namespace Go.Proofs.YtdaeofhdgabhjaaGreat
open Go.ChangeShapes Go.WideShapes Go.ChangeAt Go.RowKit Go.Joins Go.Deep
theorem law_check (s : Geo.Shape) (l : List Geo.Ring) (hs : BigOk s) (hl : FewL l) : Sat Tryz.prog false 4 [shapeP s, ringsP l] (.bool true) :=
  sat_of (k4 [aSh.enc s, (aL .R).enc l] (s, l) rfl ((andL_iff (l := c4.pre (s, l))).1 ⟨hs, hl⟩)) (by simp only [avs, av_sh, av_rsE]; rfl) rfl
set_option maxRecDepth 100000 in
theorem check_lifted (os : Os) (started : os.Started) (H : Type) (enc : TypeId × Value → H) :
    ReturnsInHanded {} Tryz.checked os 4 .any (Rows.triangleCheckSpec.pre6 enc Tryz.prog Tryz.f4 Rows.triangleCheckRow.domain false) (Rows.triangleCheckSpec.post enc Tryz.prog Tryz.f4 false true false false) := by
  refine returnsInHanded_of_change_sized (C := Tryz.checked) Tryz.own started (by kernel_rfl) Tryz.func4
    (ChangeSpec.witness6 (enc := enc) (C := Tryz.checked) false ⟨#[], #[(.agg #[.slice none 0 0, .slice none 0 0]), (.slice none 0 0)], []⟩ 8 (by kernel_rfl) (by kernel_rfl) (by kernel_rfl) (by kernel_rfl)) ?_
  intro W base args ds gs before hval0 hW hcnd hsz0 _
  have hval : ∀ (j : Nat) t v, Tryz.f4.params[j]? = some t → args[j]? = some v → Value.okWide Tryz.prog W .any base t v := hval0
  have hsz : (DataW.weightsEach Tryz.prog (Tryz.f4.params.toList ++ Rows.triangleCheckSpec.plain.varTypes Tryz.prog) (ds ++ gs)).all (· ≤ reachBytes) = true := hsz0
  have hW' := hW
  obtain ⟨p, q, hA0, hV, rfl, hfz, hnd⟩ := hW
  have hA : DataW.TrodAll enc Tryz.prog W 0 (fun _ => true) true Tryz.f4.params.toList args.toList ds p := hA0
  rw [Tryz.params4] at hA hval hsz
  obtain ⟨v0, v1, d0, d1, p0, p1, rfl, rfl, rfl, h0, h1⟩ := trodAll_two hA
  obtain ⟨rfl, rfl⟩ := trodVars_none hV
  have hw0 : ∀ n ∈ DataW.weights Tryz.prog 26 d0, n ≤ reachBytes := fun n hn => by
    have := List.all_eq_true.1 hsz n (DataW.weights_mem_each (j := 0) (t := 26) rfl rfl n hn)
    simpa using this
  have hw1 : ∀ n ∈ DataW.weights Tryz.prog 24 d1, n ≤ reachBytes := fun n hn => by
    have := List.all_eq_true.1 hsz n (DataW.weights_mem_each (j := 1) (t := 24) rfl rfl n hn)
    simpa using this
  obtain ⟨s, r0, b0⟩ := open_shape (hval 0 26 v0 rfl rfl) h0 hw0
  obtain ⟨l, r1, b1⟩ := open_rings_few (hval 1 24 v1 rfl rfl) h1 hw1
  clear hA0 hval0
  simp only [List.append_nil] at hW'
  have hcall := (law_check s l b0 b1).2 (cellW W) W [v0, v1] (fun _ _ _ h => h) (by unfold RepL; exact ⟨v0, [v1], rfl, r0, by unfold RepL; exact ⟨v1, [], rfl, r1, by unfold RepL; rfl⟩⟩)
  refine hcall.mono fun e W' ⟨v, he, hr, hB⟩ => ?_
  unfold RepV at hr
  subst he hr
  have hlt0 : ∀ x ∈ p0, x.block < W.heap.size := fun x hx => by simpa using hW'.lt x (by simp [hx])
  have hlt1 : ∀ x ∈ p1, x.block < W.heap.size := fun x hx => by simpa using hW'.lt x (by simp [hx])
  refine ⟨_, rfl, _, _, _, [], (p0 ++ p1), [], hW', ?_, ?_, rfl, hB.frame _, fun h => by cases h⟩
  · exact trodAll_mk1 (shut_bool Tryz.underlying4 true)
  · exact trodAll_mk2 (Below.trod Tryz.laidOut (by kernel_rfl) (of_decide_eq_true (by kernel_rfl)) h0 hB hlt0) (Below.trod Tryz.laidOut (by kernel_rfl) (of_decide_eq_true (by kernel_rfl)) h1 hB hlt1)
theorem check_holds : Rows.TriangleCheckSaid :=
  OpenClaim.holds_of_wide 4 Tryz.f4 rfl rfl rfl rfl rfl rfl rfl ⟨rfl, rfl, rfl, rfl, rfl⟩ rfl rfl rfl rfl rfl (by kernel_rfl) Tryz.func4 (by kernel_rfl)
    (of_decide_eq_true (by kernel_rfl)) (by unfold Func.isWrapper; first | (rw [if_pos (by decide +kernel)]; kernel_rfl) | (rw [if_neg (by decide +kernel)]; exact ⟨rfl, rfl⟩))
    (fun os started H enc _ => check_lifted os started H enc)
end Go.Proofs.YtdaeofhdgabhjaaGreat
