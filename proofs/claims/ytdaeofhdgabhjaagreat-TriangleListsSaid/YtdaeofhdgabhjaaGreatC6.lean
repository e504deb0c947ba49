/- What the statements about triangulations stand on: contracts of functions, plain laws. Part 6 of 6, no condition of its own. (K16 N17 J16 M0 Q0) -/
import Derived.Test.YtdaeofhdgabhjaaGreatC5
import Derived.KernelRfl
import Derived.Test.YtdaeofhdgabhjaaGreatRows
import Derived.ProofKit
import Derived.Carry
import Derived.SizedLaws
import Derived.Deep.SlicePairs
import Derived.Lib.SmallJoins
namespace Go.Proofs.YtdaeofhdgabhjaaGreat
open Go.RowKit
set_option maxRecDepth 100000
noncomputable section
open Geo (edgesS nth nthR)
def eP (s : Geo.S) (r : Geo.Ring) (k : Nat) : Int × Int := pairE s (nthS (Geo.edges r) k)
def eA (s : Geo.S) (r : Geo.Ring) (k : Nat) : Int := (eP s r k).1
def eB' (s : Geo.S) (r : Geo.Ring) (k : Nat) : Int := (eP s r k).2
def eO (s : Geo.S) (r : Geo.Ring) (k : Nat) : Bool := outE (eP s r k)
theorem vs_edges {s : Geo.Shape} (h : Geo.VS s) : ∀ e ∈ edgesS s, Geo.within e.a 10000 = true ∧ Geo.within e.b 10000 = true := by
  intro e he
  unfold edgesS at he
  obtain ⟨r, hr, her⟩ := List.mem_flatMap.1 he
  exact vr_edges (h.ring hr) her
def c158 : Con := con (ac aS (a1 (aL .V))) (fun (s, r) => [bd 10000 s.a, bd 10000 s.b, r.length ≤ 1000, (∀ i, i < (Geo.edges r).length → bd 10000 (nthS (Geo.edges r) i).a ∧ bd 10000 (nthS (Geo.edges r) i).b)]) (fun (s, r) => .bool (Geo.entersP s r))
set_option maxHeartbeats 2000000 in
theorem k158 : c158.Ok Tryz.prog 158 := con_ok (cx_ok t21o) (raw := noRaw) (fun (s, r) => [(3, .mk Nat (fun F _ => natAt F 17) [] (fun k => [k ≤ (Geo.edges r).length, InvE s r k]) (fun k => [(17, .int .i64 (k : Int)), (5, .int .i64 (lnE s r k)), (6, .int .i64 (ldE s r k)), (7, .int .i64 (hnE s r k)), (8, .int .i64 (hdE s r k))]) (fun _ => []) (fun k => (Geo.edges r).length - k) fun k =>
  [jU 7 [(12, .int .i64 (eA s r k)), (13, .int .i64 (eB' s r k))], jb 8 40 (eO s r k), jPU 15 [eO s r k = false] [(5, .int .i64 (lnE s r (k + 1))), (6, .int .i64 (ldE s r (k + 1))), (7, .int .i64 (hnE s r (k + 1))), (8, .int .i64 (hdE s r (k + 1)))]])]
  ) (fun (_, _) => ⟨_, rfl⟩) fun (s, r) hp => by_vc (q := r.length ≤ 1000 ∧ (0 = (0 : Int) ∧ 0 = lnE s r 0 ∧ 1 = ldE s r 0 ∧ 1 = hnE s r 0 ∧ 1 = hdE s r 0 ∧ (0 : Nat) ≤ (Geo.edges r).length ∧ InvE s r 0) ∧
 (∀ x : Nat, x ≤ (Geo.edges r).length ∧ InvE s r x → ((x : Int) < (Geo.edges r).length → (ix (x : Int) (Geo.edges r).length ∧ x < (Geo.edges r).length ∧ bd 1000000000 (nthS (Geo.edges r) x).b ∧ bd 1000000000 (nthS (Geo.edges r) x).a ∧ (bd 1000000000 s.a ∧ bd 1000000000 (nthS (Geo.edges r) x).a ∧ cOK (Geo.sub (nthS (Geo.edges r) x).b (nthS (Geo.edges r) x).a) (Geo.sub s.a (nthS (Geo.edges r) x).a) ∧ bd 1000000000 s.b ∧ bd 1000000000 (nthS (Geo.edges r) x).a ∧ cOK (Geo.sub (nthS (Geo.edges r) x).b (nthS (Geo.edges r) x).a) (Geo.sub s.b (nthS (Geo.edges r) x).a) ∧ Geo.cross (Geo.sub (nthS (Geo.edges r) x).b (nthS (Geo.edges r) x).a) (Geo.sub s.a (nthS (Geo.edges r) x).a) = eA s r x ∧ Geo.cross (Geo.sub (nthS (Geo.edges r) x).b (nthS (Geo.edges r) x).a) (Geo.sub s.b (nthS (Geo.edges r) x).a) = eB' s r x) ∧
    (∀ y : Unit, ((eA s r x ≤ 0 → decide (eB' s r x ≤ 0) = eO s r x) ∧
      (¬ eA s r x ≤ 0 → false = eO s r x)) ∧
     (∀ y_1 : Unit, (eO s r x = true → false = Geo.entersP s r) ∧
      (eO s r x = false → (eA s r x < 0 → in64 (0 - eA s r x) ∧ in64 ((0 - eA s r x) * ldE s r x) ∧ in64 (eB' s r x - eA s r x) ∧ in64 (lnE s r x * (eB' s r x - eA s r x)) ∧ (lnE s r x * (eB' s r x - eA s r x) < (0 - eA s r x) * ldE s r x → in64 (0 - eA s r x) ∧ in64 (eB' s r x - eA s r x) ∧ 0 - eA s r x = lnE s r (x + 1) ∧ eB' s r x - eA s r x = ldE s r (x + 1) ∧ hnE s r x = hnE s r (x + 1) ∧ hdE s r x = hdE s r (x + 1) ∧ eO s r x = false) ∧
        (¬ lnE s r x * (eB' s r x - eA s r x) < (0 - eA s r x) * ldE s r x → lnE s r x = lnE s r (x + 1) ∧ ldE s r x = ldE s r (x + 1) ∧ hnE s r x = hnE s r (x + 1) ∧ hdE s r x = hdE s r (x + 1) ∧ eO s r x = false)) ∧
       (¬ eA s r x < 0 → (eB' s r x < 0 → in64 (eA s r x * hdE s r x) ∧ in64 (eA s r x - eB' s r x) ∧ in64 (hnE s r x * (eA s r x - eB' s r x)) ∧ (eA s r x * hdE s r x < hnE s r x * (eA s r x - eB' s r x) → in64 (eA s r x - eB' s r x) ∧ lnE s r x = lnE s r (x + 1) ∧ ldE s r x = ldE s r (x + 1) ∧ eA s r x = hnE s r (x + 1) ∧ eA s r x - eB' s r x = hdE s r (x + 1) ∧ eO s r x = false) ∧
         (¬ eA s r x * hdE s r x < hnE s r x * (eA s r x - eB' s r x) → lnE s r x = lnE s r (x + 1) ∧ ldE s r x = ldE s r (x + 1) ∧ hnE s r x = hnE s r (x + 1) ∧ hdE s r x = hdE s r (x + 1) ∧ eO s r x = false)) ∧
        (¬ eB' s r x < 0 → lnE s r x = lnE s r (x + 1) ∧ ldE s r x = ldE s r (x + 1) ∧ hnE s r x = hnE s r (x + 1) ∧ hdE s r x = hdE s r (x + 1) ∧ eO s r x = false)))))) ∧
   (∀ y : Unit, eO s r x = false → in64 ((x : Int) + 1) ∧ (x : Int) + 1 = ((x + 1 : Nat) : Int) ∧ lnE s r (x + 1) = lnE s r (x + 1) ∧ ldE s r (x + 1) = ldE s r (x + 1) ∧ hnE s r (x + 1) = hnE s r (x + 1) ∧ hdE s r (x + 1) = hdE s r (x + 1) ∧ x + 1 ≤ (Geo.edges r).length ∧ InvE s r (x + 1) ∧ (Geo.edges r).length - (x + 1) < (Geo.edges r).length - x)) ∧
  (¬ (x : Int) < (Geo.edges r).length → in64 (lnE s r x * hdE s r x) ∧ in64 (hnE s r x * ldE s r x) ∧ decide (Geo.cmpI (lnE s r x * hdE s r x) (hnE s r x * ldE s r x) < 0) = Geo.entersP s r))) (by kernel_rfl) (by
  change bd 10000 s.a ∧ bd 10000 s.b ∧ r.length ≤ 1000 ∧ ((∀ i, i < (Geo.edges r).length → bd 10000 (nthS (Geo.edges r) i).a ∧ bd 10000 (nthS (Geo.edges r) i).b)) at hp
  obtain ⟨ha, hb, hl, he⟩ := hp
  have he : ∀ i : Nat, (i : Int) < (Geo.edges r).length → bd 10000 (nthS (Geo.edges r) i).a ∧ bd 10000 (nthS (Geo.edges r) i).b := fun i h => he i (by omega)
  have el : (Geo.edges r).length ≤ 1000 := by unfold Geo.edges; split <;> simp <;> omega
  have ha9 : bd 1000000000 s.a := ha.mono
  have hb9 : bd 1000000000 s.b := hb.mono
  have e9a : ∀ i : Nat, (i : Int) < (Geo.edges r).length → bd 1000000000 (nthS (Geo.edges r) i).a := fun i h => (he i h).1.mono
  have e9b : ∀ i : Nat, (i : Int) < (Geo.edges r).length → bd 1000000000 (nthS (Geo.edges r) i).b := fun i h => (he i h).2.mono
  have cA : ∀ (v : Geo.V) (i : Nat), bd 10000 v → (i : Int) < (Geo.edges r).length → cOK (Geo.sub (nthS (Geo.edges r) i).b (nthS (Geo.edges r) i).a) (Geo.sub v (nthS (Geo.edges r) i).a) := fun v i hv h => by
    have := cross_bd (sub_bd (he i h).2 (he i h).1) (sub_bd hv (he i h).1)
    unfold cOK; omega
  have eN : ∀ i : Nat, (i : Int) < (Geo.edges r).length → nthS (Geo.edges r) i = (Geo.edges r)[i]! := fun i h => by rw [nthS_eq (by omega), getElem!_pos _ _ (by omega)]
  have bA : ∀ i : Nat, (i : Int) < (Geo.edges r).length → ibd 800000000 (eA s r i) ∧ ibd 800000000 (eB' s r i) := fun i h => by
    have h1 := cross_bd (sub_bd (he i h).2 (he i h).1) (sub_bd ha (he i h).1)
    have h2 := cross_bd (sub_bd (he i h).2 (he i h).1) (sub_bd hb (he i h).1)
    unfold eA eB' eP pairE ibd
    dsimp only
    unfold Geo.cross
    omega
  have sN : ∀ i : Nat, (i : Int) < (Geo.edges r).length → stE s r (i + 1) = stepE (stE s r i) (eP s r i) := fun i h => by
    rw [stE_succ (show i < (Geo.edges r).length by omega)]; unfold eP; rw [nthS_eq (by omega)]
  have iN : ∀ i : Nat, (i : Int) < (Geo.edges r).length → InvE s r i → eO s r i = false → InvE s r (i + 1) := fun i h h1 h2 => by
    have hb := bA i h
    have e : eP s r i = pairE s (Geo.edges r)[i] := by unfold eP; rw [nthS_eq (by omega)]
    refine invE_succ (show i < (Geo.edges r).length by omega) h1 ?_ ?_ ?_
    · rw [← e]; exact h2
    · rw [← e]; exact hb.1
    · rw [← e]; exact hb.2
  have oY : ∀ i : Nat, (i : Int) < (Geo.edges r).length → eO s r i = true → false = Geo.entersP s r := fun i h h2 => by
    symm; refine enters_out (k := i) (show i < (Geo.edges r).length by omega) ?_
    rw [← nthS_eq (by omega)]; exact h2
  have oE : ∀ i : Nat, ¬ (i : Int) < (Geo.edges r).length → i ≤ (Geo.edges r).length → InvE s r i → decide (Geo.cmpI (lnE s r i * hdE s r i) (hnE s r i * ldE s r i) < 0) = Geo.entersP s r := fun i h h2 h3 => by
    obtain rfl : i = (Geo.edges r).length := by omega
    rw [enters_end h3]
    unfold Geo.cmpI; grind
  have o1 : ∀ i : Nat, eA s r i ≤ 0 → decide (eB' s r i ≤ 0) = eO s r i := fun i h => by
    unfold eO outE; rw [decide_eq_true (show (eP s r i).1 ≤ 0 from h)]; rfl
  have o2 : ∀ i : Nat, ¬ eA s r i ≤ 0 → false = eO s r i := fun i h => by
    unfold eO outE; rw [decide_eq_false (show ¬ (eP s r i).1 ≤ 0 from h)]; rfl
  have nN : ∀ x : Int, 0 - x = -x := fun x => by omega
  have s1 : ∀ i : Nat, (i : Int) < (Geo.edges r).length → eA s r i < 0 → lnE s r i * (eB' s r i - eA s r i) < (0 - eA s r i) * ldE s r i → stE s r (i + 1) = (0 - eA s r i, eB' s r i - eA s r i, hnE s r i, hdE s r i) := fun i h h1 h2 => by
    rw [sN i h]; unfold stepE; rw [if_pos (show (eP s r i).1 < 0 from h1)]; rw [nN] at h2; exact (if_pos (show (stE s r i).1 * ((eP s r i).2 - (eP s r i).1) < -(eP s r i).1 * (stE s r i).2.1 from h2)).trans (by rw [nN]; rfl)
  have s2 : ∀ i : Nat, (i : Int) < (Geo.edges r).length → eA s r i < 0 → ¬ lnE s r i * (eB' s r i - eA s r i) < (0 - eA s r i) * ldE s r i → stE s r (i + 1) = stE s r i := fun i h h1 h2 => by
    rw [sN i h]; unfold stepE; rw [if_pos (show (eP s r i).1 < 0 from h1)]; rw [nN] at h2; exact if_neg h2
  have s3 : ∀ i : Nat, (i : Int) < (Geo.edges r).length → ¬ eA s r i < 0 → eB' s r i < 0 → eA s r i * hdE s r i < hnE s r i * (eA s r i - eB' s r i) → stE s r (i + 1) = (lnE s r i, ldE s r i, eA s r i, eA s r i - eB' s r i) := fun i h h1 h2 h3 => by
    rw [sN i h]; unfold stepE; rw [if_neg (show ¬ (eP s r i).1 < 0 from h1), if_pos (show (eP s r i).2 < 0 from h2)]; exact if_pos h3
  have s4 : ∀ i : Nat, (i : Int) < (Geo.edges r).length → ¬ eA s r i < 0 → eB' s r i < 0 → ¬ eA s r i * hdE s r i < hnE s r i * (eA s r i - eB' s r i) → stE s r (i + 1) = stE s r i := fun i h h1 h2 h3 => by
    rw [sN i h]; unfold stepE; rw [if_neg (show ¬ (eP s r i).1 < 0 from h1), if_pos (show (eP s r i).2 < 0 from h2)]; exact if_neg h3
  have s5 : ∀ i : Nat, (i : Int) < (Geo.edges r).length → ¬ eA s r i < 0 → ¬ eB' s r i < 0 → stE s r (i + 1) = stE s r i := fun i h h1 h2 => by
    rw [sN i h]; unfold stepE; rw [if_neg (show ¬ (eP s r i).1 < 0 from h1)]; exact if_neg (show ¬ (eP s r i).2 < 0 from h2)
  have w : ∀ i : Nat, (i : Int) < (Geo.edges r).length → InvE s r i → in64 (0 - eA s r i) ∧ in64 ((0 - eA s r i) * ldE s r i) ∧ in64 (eB' s r i - eA s r i) ∧ in64 (lnE s r i * (eB' s r i - eA s r i)) ∧ in64 (eA s r i * hdE s r i) ∧ in64 (eA s r i - eB' s r i) ∧ in64 (hnE s r i * (eA s r i - eB' s r i)) := fun i h hI => by
    obtain ⟨h1, h2⟩ := bA i h
    obtain ⟨_, g1, g2, g3, g4⟩ := hI
    unfold ibd at h1 h2 g1 g2 g3 g4
    have m1 := mul_bd (x := 0 - eA s r i) (y := ldE s r i) (A := 1600000000) (B := 1600000000) (by omega) (by omega)
    have m2 := mul_bd (x := lnE s r i) (y := eB' s r i - eA s r i) (A := 1600000000) (B := 1600000000) (by omega) (by omega)
    have m3 := mul_bd (x := eA s r i) (y := hdE s r i) (A := 1600000000) (B := 1600000000) (by omega) (by omega)
    have m4 := mul_bd (x := hnE s r i) (y := eA s r i - eB' s r i) (A := 1600000000) (B := 1600000000) (by omega) (by omega)
    exact ⟨i64w (by omega), i64w (by omega), i64w (by omega), i64w (by omega), i64w (by omega), i64w (by omega), i64w (by omega)⟩
  have wE : ∀ i : Nat, InvE s r i → in64 (lnE s r i * hdE s r i) ∧ in64 (hnE s r i * ldE s r i) := fun i hI => by
    obtain ⟨_, g1, g2, g3, g4⟩ := hI
    unfold ibd at g1 g2 g3 g4
    have m1 := mul_bd (x := lnE s r i) (y := hdE s r i) (A := 1600000000) (B := 1600000000) (by omega) (by omega)
    have m2 := mul_bd (x := hnE s r i) (y := ldE s r i) (A := 1600000000) (B := 1600000000) (by omega) (by omega)
    exact ⟨i64w (by omega), i64w (by omega)⟩
  have z := invE_zero s r
  have q1 : ∀ i : Nat, (i : Int) < (Geo.edges r).length → eA s r i < 0 → lnE s r i * (eB' s r i - eA s r i) < (0 - eA s r i) * ldE s r i → 0 - eA s r i = lnE s r (i + 1) ∧ eB' s r i - eA s r i = ldE s r (i + 1) ∧ hnE s r i = hnE s r (i + 1) ∧ hdE s r i = hdE s r (i + 1) := fun i h0 h1 h2 => by
    have e := s1 i h0 h1 h2
    exact ⟨(congrArg (fun q : Q4 => q.1) e).symm, (congrArg (fun q : Q4 => q.2.1) e).symm, (congrArg (fun q : Q4 => q.2.2.1) e).symm, (congrArg (fun q : Q4 => q.2.2.2) e).symm⟩
  have q2 : ∀ i : Nat, (i : Int) < (Geo.edges r).length → eA s r i < 0 → ¬ lnE s r i * (eB' s r i - eA s r i) < (0 - eA s r i) * ldE s r i → lnE s r i = lnE s r (i + 1) ∧ ldE s r i = ldE s r (i + 1) ∧ hnE s r i = hnE s r (i + 1) ∧ hdE s r i = hdE s r (i + 1) := fun i h0 h1 h2 => by
    have e := s2 i h0 h1 h2
    exact ⟨(congrArg (fun q : Q4 => q.1) e).symm, (congrArg (fun q : Q4 => q.2.1) e).symm, (congrArg (fun q : Q4 => q.2.2.1) e).symm, (congrArg (fun q : Q4 => q.2.2.2) e).symm⟩
  have q3 : ∀ i : Nat, (i : Int) < (Geo.edges r).length → ¬ eA s r i < 0 → eB' s r i < 0 → eA s r i * hdE s r i < hnE s r i * (eA s r i - eB' s r i) → lnE s r i = lnE s r (i + 1) ∧ ldE s r i = ldE s r (i + 1) ∧ eA s r i = hnE s r (i + 1) ∧ eA s r i - eB' s r i = hdE s r (i + 1) := fun i h0 h1 h2 h3 => by
    have e := s3 i h0 h1 h2 h3
    exact ⟨(congrArg (fun q : Q4 => q.1) e).symm, (congrArg (fun q : Q4 => q.2.1) e).symm, (congrArg (fun q : Q4 => q.2.2.1) e).symm, (congrArg (fun q : Q4 => q.2.2.2) e).symm⟩
  have q4 : ∀ i : Nat, (i : Int) < (Geo.edges r).length → ¬ eA s r i < 0 → eB' s r i < 0 → ¬ eA s r i * hdE s r i < hnE s r i * (eA s r i - eB' s r i) → lnE s r i = lnE s r (i + 1) ∧ ldE s r i = ldE s r (i + 1) ∧ hnE s r i = hnE s r (i + 1) ∧ hdE s r i = hdE s r (i + 1) := fun i h0 h1 h2 h3 => by
    have e := s4 i h0 h1 h2 h3
    exact ⟨(congrArg (fun q : Q4 => q.1) e).symm, (congrArg (fun q : Q4 => q.2.1) e).symm, (congrArg (fun q : Q4 => q.2.2.1) e).symm, (congrArg (fun q : Q4 => q.2.2.2) e).symm⟩
  have q5 : ∀ i : Nat, (i : Int) < (Geo.edges r).length → ¬ eA s r i < 0 → ¬ eB' s r i < 0 → lnE s r i = lnE s r (i + 1) ∧ ldE s r i = ldE s r (i + 1) ∧ hnE s r i = hnE s r (i + 1) ∧ hdE s r i = hdE s r (i + 1) := fun i h0 h1 h2 => by
    have e := s5 i h0 h1 h2
    exact ⟨(congrArg (fun q : Q4 => q.1) e).symm, (congrArg (fun q : Q4 => q.2.1) e).symm, (congrArg (fun q : Q4 => q.2.2.1) e).symm, (congrArg (fun q : Q4 => q.2.2.2) e).symm⟩
  clear he sN bA eN nN s1 s2 s3 s4 s5
  repeat' first | with_reducible apply And.intro | with_reducible intro
  all_goals repeat with_reducible cases ‹_ ∧ InvE _ _ _›
  all_goals first | assumption | with_reducible rfl | (with_reducible exact e9a _ ‹_›) | (with_reducible exact e9b _ ‹_›) | (with_reducible exact cA _ _ ‹_› ‹_›) | (with_reducible exact oY _ ‹_› ‹_›) | (with_reducible exact oE _ ‹_› ‹_› ‹_›) | (with_reducible exact o1 _ ‹_›) | (with_reducible exact o2 _ ‹_›) | (with_reducible exact (w _ ‹_› ‹_›).1) | (with_reducible exact (w _ ‹_› ‹_›).2.1) | (with_reducible exact (w _ ‹_› ‹_›).2.2.1) | (with_reducible exact (w _ ‹_› ‹_›).2.2.2.1) | (with_reducible exact (w _ ‹_› ‹_›).2.2.2.2.1) | (with_reducible exact (w _ ‹_› ‹_›).2.2.2.2.2.1) | (with_reducible exact (w _ ‹_› ‹_›).2.2.2.2.2.2) | (with_reducible exact (wE _ ‹_›).1) | (with_reducible exact (wE _ ‹_›).2) | (with_reducible exact iN _ ‹_› ‹_› ‹_›) | (with_reducible exact (q1 _ ‹_› ‹_› ‹_›).1) | (with_reducible exact (q1 _ ‹_› ‹_› ‹_›).2.1) | (with_reducible exact (q1 _ ‹_› ‹_› ‹_›).2.2.1) | (with_reducible exact (q1 _ ‹_› ‹_› ‹_›).2.2.2) | (with_reducible exact (q2 _ ‹_› ‹_› ‹_›).1) | (with_reducible exact (q2 _ ‹_› ‹_› ‹_›).2.1) | (with_reducible exact (q2 _ ‹_› ‹_› ‹_›).2.2.1) | (with_reducible exact (q2 _ ‹_› ‹_› ‹_›).2.2.2) | (with_reducible exact (q3 _ ‹_› ‹_› ‹_› ‹_›).1) | (with_reducible exact (q3 _ ‹_› ‹_› ‹_› ‹_›).2.1) | (with_reducible exact (q3 _ ‹_› ‹_› ‹_› ‹_›).2.2.1) | (with_reducible exact (q3 _ ‹_› ‹_› ‹_› ‹_›).2.2.2) | (with_reducible exact (q4 _ ‹_› ‹_› ‹_› ‹_›).1) | (with_reducible exact (q4 _ ‹_› ‹_› ‹_› ‹_›).2.1) | (with_reducible exact (q4 _ ‹_› ‹_› ‹_› ‹_›).2.2.1) | (with_reducible exact (q4 _ ‹_› ‹_› ‹_› ‹_›).2.2.2) | (with_reducible exact (q5 _ ‹_› ‹_› ‹_›).1) | (with_reducible exact (q5 _ ‹_› ‹_› ‹_›).2.1) | (with_reducible exact (q5 _ ‹_› ‹_› ‹_›).2.2.1) | (with_reducible exact (q5 _ ‹_› ‹_› ‹_›).2.2.2) | omega | (unfold ix; omega) | (unfold in64; omega) | rfl)
def t158 : Tab := tabL [(158, c158)] t21
theorem t158o : t158.Ok Tryz.prog := tabL_ok t21o ⟨k158, trivial⟩
theorem any_yes {t : LT} {l : List t.ty} {q : t.ty → Bool} {j : Nat} (hj : j < l.length) (h : q (t.nth l j) = true) : l.any q = true :=
  List.any_eq_true.2 ⟨_, List.getElem_mem hj, by rw [← t.nth_eq l hj]; exact h⟩
theorem any_no {t : LT} {l : List t.ty} {q : t.ty → Bool} (h : upto (fun j => q (t.nth l j) = false) l.length) : l.any q = false :=
  List.any_eq_false.2 fun x hx => by
    obtain ⟨j, hj, rfl⟩ := List.getElem_of_mem hx
    have := h j hj
    dsimp only at this
    rw [t.nth_eq l hj] at this
    rw [this]; simp
def c88 : Con := con (ac (aL .V) (a1 (aL .V))) (fun (a, b) => [TriOk a, TriOk b]) (fun (a, b) => .bool (Geo.overlapP a b))
theorem k88 : c88.Ok Tryz.prog 88 := con_ok (cx_ok t158o) (raw := noRaw) (fun (a, b) => [cnt 2 12 (Geo.edges a).length (upto fun i => Geo.entersP (nthS (Geo.edges a) i) b = false), cnt 8 23 (Geo.edges b).length (upto fun i => Geo.entersP (nthS (Geo.edges b) i) a = false)]
  ) (fun (_, _) => ⟨_, rfl⟩) fun (a, b) hp => by_vc (q := a.length ≤ 1000 ∧ (0 = (0 : Int) ∧ (0 : Nat) ≤ (Geo.edges a).length ∧ upto (fun i => Geo.entersP (nthS (Geo.edges a) i) b = false) 0) ∧
 (∀ x : Nat, x ≤ (Geo.edges a).length ∧ upto (fun i => Geo.entersP (nthS (Geo.edges a) i) b = false) x → ((x : Int) < (Geo.edges a).length → ix (x : Int) (Geo.edges a).length ∧ x < (Geo.edges a).length ∧ bd 10000 (nthS (Geo.edges a) x).a ∧ bd 10000 (nthS (Geo.edges a) x).b ∧ b.length ≤ 1000 ∧ (∀ i : Nat, i < (Geo.edges b).length → bd 10000 (nthS (Geo.edges b) i).a ∧ bd 10000 (nthS (Geo.edges b) i).b) ∧ (Geo.entersP (nthS (Geo.edges a) x) b = true → true = Geo.overlapP a b) ∧
   (Geo.entersP (nthS (Geo.edges a) x) b = false → in64 ((x : Int) + 1) ∧ (x : Int) + 1 = ((x + 1 : Nat) : Int) ∧ x + 1 ≤ (Geo.edges a).length ∧ upto (fun i => Geo.entersP (nthS (Geo.edges a) i) b = false) (x + 1) ∧ (Geo.edges a).length - (x + 1) < (Geo.edges a).length - x)) ∧
  (¬ (x : Int) < (Geo.edges a).length → b.length ≤ 1000 ∧ (0 = (0 : Int) ∧ (0 : Nat) ≤ (Geo.edges b).length ∧ upto (fun i => Geo.entersP (nthS (Geo.edges b) i) a = false) 0) ∧
   (∀ x_1 : Nat, x_1 ≤ (Geo.edges b).length ∧ upto (fun i => Geo.entersP (nthS (Geo.edges b) i) a = false) x_1 → ((x_1 : Int) < (Geo.edges b).length → ix (x_1 : Int) (Geo.edges b).length ∧ x_1 < (Geo.edges b).length ∧ bd 10000 (nthS (Geo.edges b) x_1).a ∧ bd 10000 (nthS (Geo.edges b) x_1).b ∧ a.length ≤ 1000 ∧ (∀ i : Nat, i < (Geo.edges a).length → bd 10000 (nthS (Geo.edges a) i).a ∧ bd 10000 (nthS (Geo.edges a) i).b) ∧ (Geo.entersP (nthS (Geo.edges b) x_1) a = true → true = Geo.overlapP a b) ∧
     (Geo.entersP (nthS (Geo.edges b) x_1) a = false → in64 ((x_1 : Int) + 1) ∧ (x_1 : Int) + 1 = ((x_1 + 1 : Nat) : Int) ∧ x_1 + 1 ≤ (Geo.edges b).length ∧ upto (fun i => Geo.entersP (nthS (Geo.edges b) i) a = false) (x_1 + 1) ∧ (Geo.edges b).length - (x_1 + 1) < (Geo.edges b).length - x_1)) ∧
    (¬ (x_1 : Int) < (Geo.edges b).length → ix 0 a.length ∧ ix 1 a.length ∧ ix 2 a.length ∧ bd 1000000000 (nth a 0) ∧ bd 1000000000 (nth a 1) ∧ bd 1000000000 (nth a 2) ∧ b.length ≤ 1000 ∧ decide (Geo.whereP b (Geo.centerP (nth a 0) (nth a 1) (nth a 2)) = 2) = Geo.overlapP a b))))) (by kernel_rfl) (by
  change TriOk a ∧ TriOk b at hp
  obtain ⟨ha, hb⟩ := hp
  have la := ha.len
  have lb := hb.len
  have l3 := ha.three
  have el : ∀ r : Geo.Ring, r.length ≤ 1000 → (Geo.edges r).length ≤ 1000 := fun r h => by unfold Geo.edges; split <;> simp <;> omega
  have ela := el a la
  have elb := el b lb
  have eb : ∀ r : Geo.Ring, TriOk r → ∀ i : Nat, i < (Geo.edges r).length → bd 10000 (nthS (Geo.edges r) i).a ∧ bd 10000 (nthS (Geo.edges r) i).b := fun r h i hi => by
    have := h.edges _ (List.getElem_mem hi)
    rw [nthS_eq hi]; exact ⟨bd_of this.1, bd_of this.2⟩
  have ea1 : ∀ i : Nat, (i : Int) < (Geo.edges a).length → bd 10000 (nthS (Geo.edges a) i).a := fun i h => (eb a ha i (by omega)).1
  have ea2 : ∀ i : Nat, (i : Int) < (Geo.edges a).length → bd 10000 (nthS (Geo.edges a) i).b := fun i h => (eb a ha i (by omega)).2
  have eb1 : ∀ i : Nat, (i : Int) < (Geo.edges b).length → bd 10000 (nthS (Geo.edges b) i).a := fun i h => (eb b hb i (by omega)).1
  have eb2 : ∀ i : Nat, (i : Int) < (Geo.edges b).length → bd 10000 (nthS (Geo.edges b) i).b := fun i h => (eb b hb i (by omega)).2
  have xa1 : ∀ i : Nat, i < (Geo.edges a).length → bd 10000 (nthS (Geo.edges a) i).a := fun i h => (eb a ha i h).1
  have xa2 : ∀ i : Nat, i < (Geo.edges a).length → bd 10000 (nthS (Geo.edges a) i).b := fun i h => (eb a ha i h).2
  have xb1 : ∀ i : Nat, i < (Geo.edges b).length → bd 10000 (nthS (Geo.edges b) i).a := fun i h => (eb b hb i h).1
  have xb2 : ∀ i : Nat, i < (Geo.edges b).length → bd 10000 (nthS (Geo.edges b) i).b := fun i h => (eb b hb i h).2
  have vb : ∀ i, i < a.length → bd 1000000000 (nth a i) := fun i h => bd_of (ha.near _ (Geo.nth_mem h)) (by decide)
  have v0 := vb 0 (by omega)
  have v1 := vb 1 (by omega)
  have v2 := vb 2 (by omega)
  have t1 : ∀ i : Nat, (i : Int) < (Geo.edges a).length → Geo.entersP (nthS (Geo.edges a) i) b = true → true = Geo.overlapP a b := fun i h h2 => by
    unfold Geo.overlapP
    rw [any_yes (t := .S) (l := Geo.edges a) (q := fun s => Geo.entersP s b) (j := i) (by omega) h2]; rfl
  have t2 : ∀ i : Nat, (i : Int) < (Geo.edges b).length → Geo.entersP (nthS (Geo.edges b) i) a = true → true = Geo.overlapP a b := fun i h h2 => by
    unfold Geo.overlapP
    rw [any_yes (t := .S) (l := Geo.edges b) (q := fun s => Geo.entersP s a) (j := i) (by omega) h2]; simp
  have t3 : ∀ x y : Nat, ¬ (x : Int) < (Geo.edges a).length → x ≤ (Geo.edges a).length → upto (fun i => Geo.entersP (nthS (Geo.edges a) i) b = false) x → ¬ (y : Int) < (Geo.edges b).length → y ≤ (Geo.edges b).length → upto (fun i => Geo.entersP (nthS (Geo.edges b) i) a = false) y → decide (Geo.whereP b (Geo.centerP (nth a 0) (nth a 1) (nth a 2)) = 2) = Geo.overlapP a b := fun x y h1 h2 h3 h4 h5 h6 => by
    obtain rfl : x = (Geo.edges a).length := by omega
    obtain rfl : y = (Geo.edges b).length := by omega
    unfold Geo.overlapP
    rw [any_no (t := .S) (l := Geo.edges a) (q := fun s => Geo.entersP s b) h3, any_no (t := .S) (l := Geo.edges b) (q := fun s => Geo.entersP s a) h6, Bool.false_or, Bool.false_or, Bool.eq_iff_iff]; simp
  clear ha hb eb el vb
  repeat' first | with_reducible apply And.intro | with_reducible intro
  all_goals repeat with_reducible cases ‹_ ∧ upto _ _›
  all_goals first | assumption | rfl | omega | (unfold ix; omega) | (unfold in64; omega) | exact upto_zero _ | exact ea1 _ ‹_› | exact ea2 _ ‹_› | exact eb1 _ ‹_› | exact eb2 _ ‹_› | exact xa1 _ ‹_› | exact xa2 _ ‹_› | exact xb1 _ ‹_› | exact xb2 _ ‹_› | exact t1 _ ‹_› ‹_› | exact t2 _ ‹_› ‹_› | exact t3 _ _ ‹_› ‹_› ‹_› ‹_› ‹_› ‹_› | exact upto_succ ‹_› ‹_›)
def t88 : Tab := tabL [(88, c88)] t158
theorem t88o : t88.Ok Tryz.prog := tabL_ok t158o ⟨k88, trivial⟩
def c85 : Con := con (ac aSh (a1 (aL .V))) (fun (s, r) => [Fit s, TriOk r, (edgesS s).length ≤ 1000000, (∀ e ∈ edgesS s, Geo.within e.a 10000 = true ∧ Geo.within e.b 10000 = true)]) (fun (s, r) => .bool (Geo.withinTP s r))
theorem k85 : c85.Ok Tryz.prog 85 := con_ok (cx_ok t88o) (raw := noRaw) (fun (s, r) => [cnt 2 10 (edgesS s).length (upto fun i => Geo.entersP (nthS (edgesS s) i) r = false)]
  ) (fun (_, _) => ⟨_, rfl⟩) fun (s, r) hp => by_vc (q := Fit s ∧ (0 = (0 : Int) ∧ (0 : Nat) ≤ (edgesS s).length ∧ upto (fun i => Geo.entersP (nthS (edgesS s) i) r = false) 0) ∧
 (∀ x : Nat, x ≤ (edgesS s).length ∧ upto (fun i => Geo.entersP (nthS (edgesS s) i) r = false) x → ((x : Int) < (edgesS s).length → ix (x : Int) (edgesS s).length ∧ bd 10000 (nthS (edgesS s) x).a ∧ bd 10000 (nthS (edgesS s) x).b ∧ r.length ≤ 1000 ∧ (∀ i : Nat, i < (Geo.edges r).length → bd 10000 (nthS (Geo.edges r) i).a ∧ bd 10000 (nthS (Geo.edges r) i).b) ∧ (Geo.entersP (nthS (edgesS s) x) r = true → false = Geo.withinTP s r) ∧
   (Geo.entersP (nthS (edgesS s) x) r = false → in64 ((x : Int) + 1) ∧ (x : Int) + 1 = ((x + 1 : Nat) : Int) ∧ x + 1 ≤ (edgesS s).length ∧ upto (fun i => Geo.entersP (nthS (edgesS s) i) r = false) (x + 1) ∧ (edgesS s).length - (x + 1) < (edgesS s).length - x)) ∧
  (¬ (x : Int) < (edgesS s).length → ix 0 r.length ∧ ix 1 r.length ∧ ix 2 r.length ∧ bd 1000000000 (nth r 0) ∧ bd 1000000000 (nth r 1) ∧ bd 1000000000 (nth r 2) ∧ Fit s ∧ decide (Geo.whereSP s (Geo.centerP (nth r 0) (nth r 1) (nth r 2)) = 2) = Geo.withinTP s r))) (by kernel_rfl) (by
  change Fit s ∧ TriOk r ∧ (edgesS s).length ≤ 1000000 ∧ ((∀ e ∈ edgesS s, Geo.within e.a 10000 = true ∧ Geo.within e.b 10000 = true)) at hp
  obtain ⟨hf, hr, hl, he⟩ := hp
  have lr := hr.len
  have l3 := hr.three
  have e1 : ∀ i : Nat, (i : Int) < (edgesS s).length → bd 10000 (nthS (edgesS s) i).a := fun i h => by rw [nthS_eq (by omega)]; exact bd_of (he _ (List.getElem_mem _)).1
  have e2 : ∀ i : Nat, (i : Int) < (edgesS s).length → bd 10000 (nthS (edgesS s) i).b := fun i h => by rw [nthS_eq (by omega)]; exact bd_of (he _ (List.getElem_mem _)).2
  have x1 : ∀ i : Nat, i < (Geo.edges r).length → bd 10000 (nthS (Geo.edges r) i).a := fun i h => by rw [nthS_eq h]; exact bd_of (hr.edges _ (List.getElem_mem _)).1
  have x2 : ∀ i : Nat, i < (Geo.edges r).length → bd 10000 (nthS (Geo.edges r) i).b := fun i h => by rw [nthS_eq h]; exact bd_of (hr.edges _ (List.getElem_mem _)).2
  have vb : ∀ i, i < r.length → bd 1000000000 (nth r i) := fun i h => bd_of (hr.near _ (Geo.nth_mem h)) (by decide)
  have v0 := vb 0 (by omega)
  have v1 := vb 1 (by omega)
  have v2 := vb 2 (by omega)
  have t1 : ∀ i : Nat, (i : Int) < (edgesS s).length → Geo.entersP (nthS (edgesS s) i) r = true → false = Geo.withinTP s r := fun i h h2 => by
    unfold Geo.withinTP
    rw [all_no (t := .S) (l := edgesS s) (q := fun e => !Geo.entersP e r) (j := i) (by omega) (by rw [show Geo.entersP (LT.S.nth (edgesS s) i) r = true from h2]; rfl)]; rfl
  have t3 : ∀ x : Nat, ¬ (x : Int) < (edgesS s).length → x ≤ (edgesS s).length → upto (fun i => Geo.entersP (nthS (edgesS s) i) r = false) x → decide (Geo.whereSP s (Geo.centerP (nth r 0) (nth r 1) (nth r 2)) = 2) = Geo.withinTP s r := fun x h1 h2 h3 => by
    obtain rfl : x = (edgesS s).length := by omega
    unfold Geo.withinTP
    rw [all_yes (t := .S) (l := edgesS s) (q := fun e => !Geo.entersP e r) (fun j hj => by show (!Geo.entersP (nthS (edgesS s) j) r) = true; rw [show Geo.entersP (nthS (edgesS s) j) r = false from h3 j hj]; rfl), Bool.true_and, Bool.eq_iff_iff]; simp
  clear he hr vb
  repeat' first | with_reducible apply And.intro | with_reducible intro
  all_goals repeat with_reducible cases ‹_ ∧ upto _ _›
  all_goals first | assumption | rfl | omega | (unfold ix; omega) | (unfold in64; omega) | exact upto_zero _ | exact e1 _ ‹_› | exact e2 _ ‹_› | exact x1 _ ‹_› | exact x2 _ ‹_› | exact t1 _ ‹_› ‹_› | exact t3 _ ‹_› ‹_› ‹_› | exact upto_succ ‹_› ‹_›)
def t85 : Tab := tabL [(85, c85)] t88
theorem t85o : t85.Ok Tryz.prog := tabL_ok t88o ⟨k85, trivial⟩
def fgn (v : List Geo.V) (p : Geo.V) : Bool := !v.any fun u => decide (p = u)
def c150 : Con := con (ac (aL .V) (a1 aV)) (fun (l, _) => [l.length ≤ 1000000]) (fun (l, v) => .int .i64 (fI (fun u => decide (v = u)) l))
theorem k150 : c150.Ok Tryz.prog 150 := con_ok (cx_ok t85o) (raw := noRaw) (fun (l, v) => [cnt 2 8 l.length (upto fun j => decide (v = nth l j) = false)]
  ) (fun (_, _) => ⟨_, rfl⟩) fun (l, v) hp => by_vc (q := (0 = (0 : Int) ∧ (0 : Nat) ≤ l.length ∧ upto (fun j => decide (v = nth l j) = false) 0) ∧
 (∀ x : Nat, x ≤ l.length ∧ upto (fun j => decide (v = nth l j) = false) x → ((x : Int) < l.length → ix (x : Int) l.length ∧ (v = (nth l x) → (x : Int) = fI (fun u => decide (v = u)) l) ∧
   (¬ v = (nth l x) → in64 ((x : Int) + 1) ∧ (x : Int) + 1 = ((x + 1 : Nat) : Int) ∧ x + 1 ≤ l.length ∧ upto (fun j => decide (v = nth l j) = false) (x + 1) ∧ l.length - (x + 1) < l.length - x)) ∧
  (¬ (x : Int) < l.length → -1 = fI (fun u => decide (v = u)) l))) (by kernel_rfl) (by
  change l.length ≤ 1000000 at hp
  repeat' first | with_reducible apply And.intro | with_reducible intro
  all_goals repeat with_reducible cases ‹_ ∧ _›
  all_goals first | assumption | rfl | exact trivial | exact nb ‹_› | exact nb' ‹_› | omega | exact ix_mod (by omega) | (unfold ix; omega) | (unfold in64; omega) | exact upto_zero _ | exact upto_succ ‹_› ‹_› | (refine upto_succ ‹_› ?_; simp_all; done) | exact fI_at (t := .V) (by omega) (decide_eq_true ‹_›) ‹_› | (obtain rfl : _ = l.length := Nat.le_antisymm ‹_› (by omega); exact fI_end (t := .V) ‹_›) | grind)
def t150 : Tab := tabL [(150, c150)] t85
theorem t150o : t150.Ok Tryz.prog := tabL_ok t85o ⟨k150, trivial⟩
def c82 : Con := con (ac (aL .V) (a1 aV)) (fun (l, _) => [l.length ≤ 1000000]) (fun (l, v) => .bool (l.any fun u => decide (v = u))
  )
theorem k82 : c82.Ok Tryz.prog 82 := con_ok (cx_ok t150o) (raw := noRaw) (fun (_, _) => []) (fun (_, _) => ⟨_, rfl⟩) fun (l, v) hp => by_vc (q := l.length ≤ 1000000 ∧ decide (0 ≤ fI (fun u => decide (v = u)) l) = List.any l (fun u => decide (v = u))) (by kernel_rfl) (by
  change l.length ≤ 1000000 at hp
  exact ⟨hp, fI_any _ _⟩)
def t82 : Tab := tabL [(82, c82)] t150
theorem t82o : t82.Ok Tryz.prog := tabL_ok t150o ⟨k82, trivial⟩
def c81 : Con := con (ac aV (a1 aPR)) (fun (_, l) => [l.length ≤ 1000000]) (fun (v, l) => .bool (fgn l v)
  )
theorem k81 : c81.Ok Tryz.prog 81 := con_ok (cx_ok t82o) (raw := noRaw) (fun (_, _) => []) (fun (_, _) => ⟨_, rfl⟩) fun (v, l) hp => by_vc (q := l.length ≤ 1000000 ∧ (!List.any l (fun u => decide (v = u))) = fgn l v) (by kernel_rfl) (by
  change l.length ≤ 1000000 at hp
  exact ⟨hp, rfl⟩)
def t81 : Tab := tabL [(81, c81)] t82
theorem t81o : t81.Ok Tryz.prog := tabL_ok t82o ⟨k81, trivial⟩
def aC81 : Ar (Geo.Ring × Unit) := aCl 81 (ac aPR a0)
def aC87 : Ar (Geo.Ring × Unit) := aCl 87 (ac aPR a0)
def c157b : Con := con (ac (aL .V) (a1 aC81)) (fun (l, c) => [l.length ≤ 1000000, c.1.length ≤ 1000000]) (fun (l, c) => .int .i64 (fI (fgn c.1) l))
theorem k157b : c157b.Ok Tryz.prog 157 := con_ok (cx_ok t81o) (raw := noRaw) (fun (l, c) => [cnt 2 8 l.length (upto fun j => fgn c.1 (nth l j) = false)]
  ) (fun (_, _) => ⟨_, rfl⟩) fun (l, c) hp => by_vc (q := (0 = (0 : Int) ∧ (0 : Nat) ≤ l.length ∧ upto (fun j => fgn c.1 (nth l j) = false) 0) ∧
 (∀ x : Nat, x ≤ l.length ∧ upto (fun j => fgn c.1 (nth l j) = false) x → ((x : Int) < l.length → ix (x : Int) l.length ∧ c.1.length ≤ 1000000 ∧ (fgn c.1 (nth l x) = true → (x : Int) = fI (fgn c.1) l) ∧
   (fgn c.1 (nth l x) = false → in64 ((x : Int) + 1) ∧ (x : Int) + 1 = ((x + 1 : Nat) : Int) ∧ x + 1 ≤ l.length ∧ upto (fun j => fgn c.1 (nth l j) = false) (x + 1) ∧ l.length - (x + 1) < l.length - x)) ∧
  (¬ (x : Int) < l.length → -1 = fI (fgn c.1) l))) (by kernel_rfl) (by
  change l.length ≤ 1000000 ∧ c.1.length ≤ 1000000 at hp
  repeat' first | with_reducible apply And.intro | with_reducible intro
  all_goals repeat with_reducible cases ‹_ ∧ _›
  all_goals first | assumption | rfl | exact trivial | exact nb ‹_› | exact nb' ‹_› | omega | exact ix_mod (by omega) | (unfold ix; omega) | (unfold in64; omega) | exact upto_zero _ | exact upto_succ ‹_› ‹_› | (refine upto_succ ‹_› ?_; simp_all; done) | exact fI_at (t := .V) (by omega) ‹_› ‹_› | (obtain rfl : _ = l.length := Nat.le_antisymm ‹_› (by omega); exact fI_end (t := .V) ‹_›) | exact upto_succ ‹_› ‹_› | grind)
def t157b : Tab := tabL [(157, c157b)] t81
theorem t157bo : t157b.Ok Tryz.prog := tabL_ok t81o ⟨k157b, trivial⟩
def c84b : Con := con (ac (aL .V) (a1 aC81)) (fun (l, c) => [l.length ≤ 1000000, c.1.length ≤ 1000000]) (fun (l, c) => .bool (l.any (fgn c.1))
  )
theorem k84b : c84b.Ok Tryz.prog 84 := con_ok (cx_ok t157bo) (raw := noRaw) (fun (_, _) => []) (fun (_, _) => ⟨_, rfl⟩) fun (l, c) hp => by_vc (q := l.length ≤ 1000000 ∧ c.fst.length ≤ 1000000 ∧ decide (0 ≤ fI (fgn c.fst) l) = List.any l (fgn c.1)) (by kernel_rfl) (by
  change l.length ≤ 1000000 ∧ c.1.length ≤ 1000000 at hp
  exact ⟨hp.1, hp.2, fI_any _ _⟩)
def t84b : Tab := tabL [(84, c84b)] t157b
theorem t84bo : t84b.Ok Tryz.prog := tabL_ok t157bo ⟨k84b, trivial⟩
def c87 : Con := con (ac (aL .V) (a1 aPR)) (fun (o, r) => [TriOk r, TriOk o]) (fun (o, r) => .bool (Geo.overlapP r o)
  )
theorem k87 : c87.Ok Tryz.prog 87 := con_ok (cx_ok t84bo) (raw := noRaw) (fun (_, _) => []) (fun (_, _) => ⟨_, rfl⟩) fun (o, r) hp => by_vc (q := TriOk r ∧ TriOk o ∧ Geo.overlapP r o = Geo.overlapP r o) (by kernel_rfl) (by
  change TriOk r ∧ TriOk o at hp
  exact ⟨hp.1, hp.2, rfl⟩)
def t87 : Tab := tabL [(87, c87)] t84b
theorem t87o : t87.Ok Tryz.prog := tabL_ok t84bo ⟨k87, trivial⟩
def c159 : Con := con (ac (aL .R) (a1 aC87)) (fun (l, c) => [l.length ≤ 1000000, TriOk c.1, (∀ o ∈ l, TriOk o)]) (fun (l, c) => .int .i64 (fI (Geo.overlapP c.1) l))
theorem k159 : c159.Ok Tryz.prog 159 := con_ok (cx_ok t87o) (raw := noRaw) (fun (l, c) => [cnt 2 8 l.length (upto fun j => Geo.overlapP c.1 (nthR l j) = false)]
  ) (fun (_, _) => ⟨_, rfl⟩) fun (l, c) hp => by_vc (q := (0 = (0 : Int) ∧ (0 : Nat) ≤ l.length ∧ upto (fun j => Geo.overlapP c.1 (nthR l j) = false) 0) ∧
 (∀ x : Nat, x ≤ l.length ∧ upto (fun j => Geo.overlapP c.1 (nthR l j) = false) x → ((x : Int) < l.length → ix (x : Int) l.length ∧ TriOk c.1 ∧ TriOk (nthR l x) ∧ (Geo.overlapP c.1 (nthR l x) = true → (x : Int) = fI (Geo.overlapP c.1) l) ∧
   (Geo.overlapP c.1 (nthR l x) = false → in64 ((x : Int) + 1) ∧ (x : Int) + 1 = ((x + 1 : Nat) : Int) ∧ x + 1 ≤ l.length ∧ upto (fun j => Geo.overlapP c.1 (nthR l j) = false) (x + 1) ∧ l.length - (x + 1) < l.length - x)) ∧
  (¬ (x : Int) < l.length → -1 = fI (Geo.overlapP c.1) l))) (by kernel_rfl) (by
  change l.length ≤ 1000000 ∧ TriOk c.1 ∧ ((∀ o ∈ l, TriOk o)) at hp
  have hm : ∀ x : Nat, (x : Int) < l.length → TriOk (nthR l x) := fun x h => hp.2.2 _ (Geo.nthR_mem (by omega))
  repeat' first | with_reducible apply And.intro | with_reducible intro
  all_goals repeat with_reducible cases ‹_ ∧ _›
  all_goals first | assumption | rfl | exact trivial | exact nb ‹_› | exact nb' ‹_› | omega | exact ix_mod (by omega) | (unfold ix; omega) | (unfold in64; omega) | exact upto_zero _ | exact upto_succ ‹_› ‹_› | (refine upto_succ ‹_› ?_; simp_all; done) | exact hm _ ‹_› | exact fI_at (t := .R) (by omega) ‹_› ‹_› | (obtain rfl : _ = l.length := Nat.le_antisymm ‹_› (by omega); exact fI_end (t := .R) ‹_›) | grind)
def t159 : Tab := tabL [(159, c159)] t87
theorem t159o : t159.Ok Tryz.prog := tabL_ok t87o ⟨k159, trivial⟩
def c86 : Con := con (ac (aL .R) (a1 aC87)) (fun (l, c) => [l.length ≤ 1000000, TriOk c.1, (∀ o ∈ l, TriOk o)]) (fun (l, c) => .bool (l.any (Geo.overlapP c.1))
  )
theorem k86 : c86.Ok Tryz.prog 86 := con_ok (cx_ok t159o) (raw := noRaw) (fun (_, _) => []) (fun (_, _) => ⟨_, rfl⟩) fun (l, c) hp => by_vc (q := l.length ≤ 1000000 ∧ TriOk c.fst ∧ (∀ o : Geo.Ring, o ∈ l → TriOk o) ∧ decide (0 ≤ fI (Geo.overlapP c.fst) l) = List.any l (Geo.overlapP c.1)) (by kernel_rfl) (by
  change l.length ≤ 1000000 ∧ TriOk c.1 ∧ ((∀ o ∈ l, TriOk o)) at hp
  exact ⟨hp.1, hp.2.1, hp.2.2, fI_any _ _⟩)
def t86 : Tab := tabL [(86, c86)] t159
theorem t86o : t86.Ok Tryz.prog := tabL_ok t159o ⟨k86, trivial⟩
def ckA (s : Geo.Shape) (r : Geo.Ring) : Bool := (decide (¬ (r.length : Int) = 3) || (!Geo.validP r || (r.any (fgn (vOf s)) || !Geo.withinTP s r)))
def ckB (l : List Geo.Ring) (i : Nat) : Bool := (l.take i).any (Geo.overlapP (nthR l i))
def ck (s : Geo.Shape) (l : List Geo.Ring) (i : Nat) : Prop := ckA s (nthR l i) = false ∧ ckB l i = false
def a2 (r : Geo.Ring) : Int := if Geo.validP r = true then Geo.area r else 0
def a2S (l : List Geo.Ring) (k : Nat) : Int := ((l.take k).map a2).sum
def checkP (s : Geo.Shape) (l : List Geo.Ring) : Bool := Geo.validSP s && ((List.range l.length).all fun i => !ckA s (nthR l i) && !ckB l i) && decide (a2S l l.length = areaSh s)
def c28 : Con := con (ac aSh (a1 (aL .R))) (fun (s, l) => [Fit s, l.length ≤ 1000, (∀ r ∈ l, r.length ≤ 1000)]) (fun (s, l) => .bool (checkP s l))
set_option maxHeartbeats 1000000 in
theorem k28 : c28.Ok Tryz.prog 28 := con_ok (cx_ok t86o) (raw := noRaw) (fun (s, l) => [lp 6 20 l.length (fun k => [upto (ck s l) k]) [] (fun k => [(7, .int .i64 (a2S l k))]) (fun _ => []) fun k => [jb 10 44 (ckA s (nthR l k))]]
  ) (fun (_, _) => ⟨_, rfl⟩) fun (s, l) hp => by_vc (q := Fit s ∧ (¬ eOf s = 0 → false = checkP s l) ∧
 (¬ (¬ eOf s = 0) → (0 = (0 : Int) ∧ 0 = a2S l 0 ∧ (0 : Nat) ≤ l.length ∧ upto (ck s l) 0) ∧
  (∀ x : Nat, x ≤ l.length ∧ upto (ck s l) x → ((x : Int) < l.length → ix (x : Int) l.length ∧ ((¬ ((nthR l x).length : Int) = 3 → true = ckA s (nthR l x)) ∧
     (¬ (¬ ((nthR l x).length : Int) = 3) → (nthR l x).length ≤ 1000 ∧ ((!Geo.validP (nthR l x)) = true → true = ckA s (nthR l x)) ∧
      ((!Geo.validP (nthR l x)) = false → (nthR l x).length ≤ 1000000 ∧ (vOf s).length ≤ 1000000 ∧ (List.any (nthR l x) (fgn (vOf s)) = true → true = ckA s (nthR l x)) ∧
       (List.any (nthR l x) (fgn (vOf s)) = false → Fit s ∧ TriOk (nthR l x) ∧ (edgesS s).length ≤ 1000000 ∧ (∀ e : Geo.S, e ∈ edgesS s → Geo.within e.a 10000 = true ∧ Geo.within e.b 10000 = true) ∧ (!Geo.withinTP s (nthR l x)) = ckA s (nthR l x))))) ∧
    (∀ y : Unit, (ckA s (nthR l x) = true → false = checkP s l) ∧
     (ckA s (nthR l x) = false → (0 ≤ (x : Int) ∧ (x : Int) ≤ l.length) ∧ (List.take x l).length ≤ 1000000 ∧ TriOk (nthR l x) ∧ (∀ o : Geo.Ring, o ∈ List.take x l → TriOk o) ∧ (List.any (List.take x l) (Geo.overlapP (nthR l x)) = true → false = checkP s l) ∧
      (List.any (List.take x l) (Geo.overlapP (nthR l x)) = false → (nthR l x).length ≤ 1000 ∧ in64 (a2S l x + (if Geo.validP (nthR l x) = true then Geo.area (nthR l x) else 0)) ∧ in64 ((x : Int) + 1) ∧ (x : Int) + 1 = ((x + 1 : Nat) : Int) ∧ a2S l x + (if Geo.validP (nthR l x) = true then Geo.area (nthR l x) else 0) = a2S l (x + 1) ∧ x + 1 ≤ l.length ∧ upto (ck s l) (x + 1) ∧ l.length - (x + 1) < l.length - x)))) ∧
   (¬ (x : Int) < l.length → Fit s ∧ decide (a2S l x = (if Geo.validSP s = true then areaSh s else 0)) = checkP s l)))) (by kernel_rfl) (by
  change Fit s ∧ l.length ≤ 1000 ∧ ((∀ r ∈ l, r.length ≤ 1000)) at hp
  obtain ⟨hf, hl, hr⟩ := hp
  have R : ¬ ¬ eOf s = 0 → Geo.validSR s = true := fun h => eOf_yes h
  have hvP : ¬ ¬ eOf s = 0 → Geo.validSP s = true := fun h => by rw [Geo.validS_eq]; exact R h
  have V : ¬ ¬ eOf s = 0 → Geo.VS s := fun h => vsR (R h)
  have hv := vOf_le s
  have hvl : (vOf s).length ≤ 1000000 := by omega
  have he : ¬ ¬ eOf s = 0 → (edgesS s).length ≤ 1000000 := fun h => by have := vs_edgesLen (V h); omega
  have hw : ¬ ¬ eOf s = 0 → ∀ e ∈ edgesS s, Geo.within e.a 10000 = true ∧ Geo.within e.b 10000 = true := fun h => vs_edges (V h)
  have hr : ∀ x : Nat, (x : Int) < l.length → (nthR l x).length ≤ 1000 := fun x h => hr _ (Geo.nthR_mem (by omega))
  have hr6 : ∀ x : Nat, (x : Int) < l.length → (nthR l x).length ≤ 1000000 := fun x h => by have := hr x h; omega
  have c0 : ¬ eOf s = 0 → false = checkP s l := fun h => by
    unfold checkP
    rw [Geo.validS_eq]
    cases e : Geo.validSR s with
    | false => rfl
    | true => exact absurd (by unfold eOf; rw [e]; rfl) h
  have a1 : ∀ x : Nat, ¬ ((nthR l x).length : Int) = 3 → true = ckA s (nthR l x) := fun x h => by unfold ckA; rw [decide_eq_true h]; rfl
  have a2' : ∀ x : Nat, (!Geo.validP (nthR l x)) = true → true = ckA s (nthR l x) := fun x h => by unfold ckA; rw [h]; simp
  have a3 : ∀ x : Nat, List.any (nthR l x) (fgn (vOf s)) = true → true = ckA s (nthR l x) := fun x h => by unfold ckA; rw [h]; simp
  have a4 : ∀ x : Nat, ¬ ¬ ((nthR l x).length : Int) = 3 → (!Geo.validP (nthR l x)) = false → List.any (nthR l x) (fgn (vOf s)) = false → (!Geo.withinTP s (nthR l x)) = ckA s (nthR l x) := fun x h1 h2 h3 => by
    unfold ckA; rw [decide_eq_false h1, h2, h3]; rfl
  have kV : ∀ r : Geo.Ring, ckA s r = false → Geo.validP r = true := fun r h => by
    unfold ckA at h
    cases e : Geo.validP r with
    | true => rfl
    | false => rw [e] at h; simp at h
  have tO : ∀ x : Nat, (!Geo.validP (nthR l x)) = false → TriOk (nthR l x) := fun x h => triOk_of (nb h)
  have tO2 : ∀ x : Nat, ckA s (nthR l x) = false → TriOk (nthR l x) := fun x h => triOk_of (kV _ h)
  have tO3 : ∀ x : Nat, x ≤ l.length → upto (ck s l) x → ∀ o ∈ List.take x l, TriOk o := fun x hx h o ho => by
    obtain ⟨j, hj, rfl⟩ := List.getElem_of_mem ho
    rw [List.length_take] at hj
    rw [List.getElem_take, ← nthR_eq (by omega)]
    exact tO2 j (h j (by omega)).1
  have tl : ∀ x : Nat, (List.take x l).length ≤ 1000000 := fun x => by rw [List.length_take]; omega
  have no : ∀ x : Nat, (x : Int) < l.length → (ckA s (nthR l x) = true ∨ List.any (List.take x l) (Geo.overlapP (nthR l x)) = true) → false = checkP s l := fun x h h2 => by
    unfold checkP
    rw [show ((List.range l.length).all fun i => !ckA s (nthR l i) && !ckB l i) = false from List.all_eq_false.2 ⟨x, List.mem_range.2 (by omega), by
      rcases h2 with h2 | h2
      · rw [h2]; simp
      · rw [show ckB l x = true from h2]; simp⟩]
    simp
  have sS : ∀ x : Nat, (x : Int) < l.length → a2S l x + a2 (nthR l x) = a2S l (x + 1) := fun x h => by
    unfold a2S
    rw [List.take_succ_eq_append_getElem (by omega), List.map_append, List.sum_append, nthR_eq (by omega)]; simp
  have b1 : ∀ r : Geo.Ring, -8000000000 ≤ a2 r ∧ a2 r ≤ 8000000000 := fun r => by
    unfold a2; split
    · exact area_bd ‹_›
    · omega
  have bS : ∀ x : Nat, x ≤ l.length → -(8000000000 * (x : Int)) ≤ a2S l x ∧ a2S l x ≤ 8000000000 * (x : Int) := fun x => by
    induction x with
    | zero => intro _; unfold a2S; simp
    | succ x ih =>
      intro h
      have h1 := ih (by omega)
      have h2 := b1 (nthR l x)
      rw [← sS x (by omega)]; omega
  have wS : ∀ x : Nat, (x : Int) < l.length → in64 (a2S l x + a2 (nthR l x)) := fun x h => by
    have h1 := bS x (by omega)
    have h2 := b1 (nthR l x)
    exact i64w (by omega)
  have yE : ¬ ¬ eOf s = 0 → ∀ x : Nat, ¬ (x : Int) < l.length → x ≤ l.length → upto (ck s l) x → decide (a2S l x = (if Geo.validSP s = true then areaSh s else 0)) = checkP s l := fun h x h1 h2 h3 => by
    obtain rfl : x = l.length := by omega
    unfold checkP
    rw [if_pos (hvP h), hvP h, show ((List.range l.length).all fun i => !ckA s (nthR l i) && !ckB l i) = true from List.all_eq_true.2 fun i hi => by
      obtain ⟨g1, g2⟩ := h3 i (List.mem_range.1 hi)
      rw [g1, g2]; rfl]
    simp
  clear V kV b1 bS hvP R
  repeat' first | with_reducible apply And.intro | with_reducible intro
  all_goals repeat with_reducible cases ‹_ ∧ upto _ _›
  all_goals first | assumption | with_reducible rfl | (with_reducible exact c0 ‹_›) | (with_reducible exact he ‹_›) | (with_reducible exact hw ‹_› _ ‹_›) | exact (hw ‹_› _ ‹_›).1 | exact (hw ‹_› _ ‹_›).2 | (with_reducible exact hr _ ‹_›) | (with_reducible exact hr6 _ ‹_›) | (with_reducible exact a1 _ ‹_›) | (with_reducible exact a2' _ ‹_›) | (with_reducible exact a3 _ ‹_›) | (with_reducible exact a4 _ ‹_› ‹_› ‹_›) | (with_reducible exact tO _ ‹_›) | (with_reducible exact tO2 _ ‹_›) | (with_reducible exact tO3 _ ‹_› ‹_› _ ‹_›) | (with_reducible exact tl _) | (with_reducible exact no _ ‹_› (.inl ‹_›)) | (with_reducible exact no _ ‹_› (.inr ‹_›)) | exact sS _ ‹_› | exact wS _ ‹_› | (with_reducible exact yE ‹_› _ ‹_› ‹_› ‹_›) | exact upto_succ ‹_› ⟨‹_›, ‹_›⟩ | exact upto_zero _ | omega | (unfold ix; omega) | (unfold in64; omega) | rfl)
def t28 : Tab := tabL [(28, c28)] t86
theorem t28o : t28.Ok Tryz.prog := tabL_ok t86o ⟨k28, trivial⟩
end
end Go.Proofs.YtdaeofhdgabhjaaGreat
namespace Go.Proofs.YtdaeofhdgabhjaaGreat
open Go.RowKit
def frS (s : Nat) (cells : List PV) (x' y : AV) : Prop := x' = .any ∨ x' = y ∨ ∃ n, y = .own s 0 n ∧ x' = .p (.sl n cells)
def frL (s : Nat) (cells : List PV) : List AV → List AV → Prop
  | [], [] => True
  | x :: l, y :: r => frS s cells x y ∧ frL s cells l r
  | _, _ => False
def frO (s : Nat) (cells : List PV) (L : Sto) : Sto → Prop
  | [] => True
  | (_, none) :: r => frO s cells L r
  | (k, some ob') :: r => (k ≠ s ∧ ∃ ob, look L k = some ob ∧ ob'.ty = ob.ty ∧ ob'.esz = ob.esz ∧ frL s cells ob'.cells ob.cells) ∧ frO s cells L r
theorem frO_look {s : Nat} {cells : List PV} {L : Sto} : ∀ {L' : Sto}, frO s cells L L' → ∀ k ob', look L' k = some ob' → k ≠ s ∧ ∃ ob, look L k = some ob ∧ ob'.ty = ob.ty ∧ ob'.esz = ob.esz ∧ frL s cells ob'.cells ob.cells
  | [], _, k, ob', h => by simp [look] at h
  | (j, x) :: r, hO, k, ob', h => by
    unfold look at h
    split at h
    · rename_i e; subst e
      subst h
      unfold frO at hO
      exact hO.1
    · refine frO_look (L' := r) ?_ k ob' h
      cases x with
      | none => unfold frO at hO; exact hO
      | some ob => unfold frO at hO; exact hO.2
theorem frL_length {s : Nat} {cells : List PV} : ∀ {l r : List AV}, frL s cells l r → l.length = r.length
  | [], [], _ => rfl
  | x :: l, y :: r, h => by unfold frL at h; simp [frL_length h.2]
  | [], _ :: _, h => by unfold frL at h; exact h.elim
  | _ :: _, [], h => by unfold frL at h; exact h.elim
theorem frL_get {s : Nat} {cells : List PV} : ∀ {l r : List AV}, frL s cells l r → ∀ (i : Nat) x, l[i]? = some x → ∃ y, r[i]? = some y ∧ frS s cells x y
  | [], [], _, i, x, h => by simp at h
  | x :: l, y :: r, h, 0, z, hz => by unfold frL at h; simp at hz; subst hz; exact ⟨y, rfl, h.1⟩
  | x :: l, y :: r, h, i + 1, z, hz => by unfold frL at h; exact frL_get h.2 i z (by simpa using hz)
  | [], _ :: _, h, _, _, _ => by unfold frL at h; exact h.elim
  | _ :: _, [], h, _, _, _ => by unfold frL at h; exact h.elim
theorem weak_freeze {F F' : List AV} {L L' : Sto} {N : Nat} {ty esz : Nat} (s : Nat) (cells : List PV) (hs : look L s = some ⟨ty, esz, cells.map .p⟩) (_hz : esz ≠ 0) (hF : frL s cells F' F) (hL : frO s cells L L') : Weak F L N F' L' N := by
  intro C0 B wI a w ⟨⟨ρ, s1, s2, s3⟩, s4, s5, s6, s7⟩
  have hl := frO_look hL
  have hsn : look L' s = none := by
    cases h : look L' s with
    | none => rfl
    | some ob => exact absurd rfl (hl s ob h).1
  have hdead : ∀ k, look L k = none → look L' k = none := by
    intro k hk
    cases h : look L' k with
    | none => rfl
    | some ob => obtain ⟨_, ob2, h2, _⟩ := hl k ob h; rw [hk] at h2; cases h2
  have hmono : ∀ b o v, CellsOf C0 B w ρ (look L) b o v → CellsOf C0 B w ρ (look L') b o v := fun b o v ⟨e1, e2, e3⟩ => ⟨e1, fun k c h => hdead k (e2 k c h), e3⟩
  have hone : ∀ x' y v, frS s cells x' y → RepA ρ (CellsOf C0 B w ρ (look L)) y v → RepA ρ (CellsOf C0 B w ρ (look L')) x' v := by
    rintro x' y v (rfl | rfl | ⟨n, rfl, rfl⟩) hv
    · unfold RepA; trivial
    · exact RepA.mono (fun _ _ h => h) hmono _ v hv
    · unfold RepA at hv ⊢
      obtain ⟨q, c, hρ, hcase⟩ := hv
      obtain ⟨q2, c2, hρ2, hob⟩ := s1.ob s _ hs
      rw [hρ] at hρ2
      cases hρ2
      unfold RepV
      rcases hcase with ⟨h1, h4, h5, _⟩ | ⟨b, o', c', h1, h4, h5, h6, h7⟩
      · subst h5
        rcases hob with ⟨_, _, h8, _⟩ | ⟨b, arr, h8, _⟩
        · exact ⟨none, 0, h4, Nat.le_refl _, fun _ => ⟨rfl, by simpa using h8⟩, fun ad e => by cases e⟩
        · rw [h1] at h8; cases h8
      · obtain ⟨rfl, rfl⟩ := h7 rfl
        rcases hob with ⟨h8, _⟩ | ⟨b2, arr, h8, h9, h10⟩
        · rw [h1] at h8; cases h8
        · rw [h1] at h8; cases h8
          refine ⟨_, c', h4, h5, (fun e => by cases e), fun ad e => ?_⟩
          cases e
          refine ⟨fun _ => rfl, RepC.of _ _ _ fun i x hi => ?_⟩
          obtain ⟨u, k1, k2, k3⟩ := h10.cells i (.p x) (by show (cells.map AV.p)[i]? = _; rw [List.getElem?_map, hi]; rfl)
          unfold RepA at k3
          refine ⟨u, ⟨by rw [Nat.zero_add, h10.cell]; exact k1, fun k c2 hk => ?_, .inl h9⟩, k2, RepV.mono hmono x u k3⟩
          cases h : look L' k with
          | none => rfl
          | some ob =>
            obtain ⟨hne, ob2, h2, _⟩ := hl k ob h
            exact absurd (s1.inj k s ob2 _ b c2 c' h2 hs hk (by rw [hρ, h1])) hne
  refine ⟨⟨ρ, ⟨?_, ?_⟩, s2, ?_⟩, s4, s5, ?_, s7⟩
  · intro k ob' hk
    obtain ⟨hne, ob, h2, h3, h4, h5⟩ := hl k ob' hk
    obtain ⟨q, c, hρ, hcase⟩ := s1.ob k ob h2
    refine ⟨q, c, hρ, ?_⟩
    have hlen := frL_length h5
    rcases hcase with ⟨g1, g2, g3, g4⟩ | ⟨b, arr, g1, g2, g3⟩
    · exact .inl ⟨g1, by rw [h4]; exact g2, by rw [g3] at hlen; exact List.length_eq_zero_iff.1 hlen, g4⟩
    · refine .inr ⟨b, arr, g1, g2, ⟨by rw [h3]; exact g3.blk, fun h => by rw [hlen]; exact g3.box (by rw [← h4]; exact h), fun h => by rw [hlen, h4]; exact g3.row (by rw [← h4]; exact h), fun i x hi => ?_⟩⟩
      obtain ⟨y, k1, k2⟩ := frL_get h5 i x hi
      obtain ⟨v, m1, m2, m3⟩ := g3.cells i y k1
      exact ⟨v, m1, m2, hone x y v k2 m3⟩
  · intro k k' o o' b c c' h1 h2 h3 h4
    obtain ⟨_, ob, g1, _⟩ := hl k o h1
    obtain ⟨_, ob', g2, _⟩ := hl k' o' h2
    exact s1.inj k k' ob ob' b c c' g1 g2 h3 h4
  · intro t
    rcases Nat.lt_or_ge t F'.length with h | h
    · obtain ⟨y, k1, k2⟩ := frL_get hF t F'[t] (List.getElem?_eq_getElem h)
      have e1 : F'.getD t .any = F'[t] := by rw [List.getD_eq_getElem?_getD, List.getElem?_eq_getElem h]; rfl
      have e2 : F.getD t .any = y := by rw [List.getD_eq_getElem?_getD, k1]; rfl
      have h3 := s3 t
      rw [e2] at h3
      rw [e1]
      exact hone _ _ _ k2 h3
    · rw [List.getD_eq_getElem?_getD, List.getElem?_eq_none h]
      show RepA _ _ .any _
      unfold RepA; trivial
  · rw [s6, frL_length hF]
end Go.Proofs.YtdaeofhdgabhjaaGreat
namespace Go.Proofs.YtdaeofhdgabhjaaGreat
open Go.RowKit
def sq : Geo.Shape := ⟨[⟨2, 2⟩, ⟨0, 2⟩, ⟨0, 0⟩, ⟨2, 0⟩], []⟩
def sqD : List Geo.S := [⟨⟨0, 0⟩, ⟨2, 2⟩⟩]
def sqT : List Geo.Ring := [[⟨0, 0⟩, ⟨2, 0⟩, ⟨2, 2⟩], [⟨0, 0⟩, ⟨2, 2⟩, ⟨0, 2⟩]]
theorem sq_fit : Fit sq := by unfold Fit; decide
theorem sq_e : eOf sq = 0 := by kernel_rfl
theorem sq_dOf : dOf sq = sqD := by kernel_rfl
theorem sq_tOf : tOf sq = sqT := by kernel_rfl
theorem sq_ck : checkP sq sqT = true := by kernel_rfl
theorem enc_Rs (l : List Geo.Ring) : (SV.lst .R l).av = .p (ringsP l) := by show AV.p (.sl _ (LT.R.enc _)) = _; rw [enc_R]; rfl
theorem sq_d : Sat Tryz.prog false 19 [shapeP sq] (.tup [segsP sqD, .int .i64 0]) :=
  sat_of (k19 [aSh.enc sq] sq rfl ((andL_iff (l := c19.pre sq)).1 sq_fit)) (by simp only [avs, av_sh]; rfl) (by show (SV.tup [.lst .S (dOf sq), .int .i64 (eOf sq)]).av = _; rw [sq_dOf, sq_e]; rfl)
theorem sq_t : Sat Tryz.prog false 21 [shapeP sq] (.tup [ringsP sqT, .int .i64 0]) :=
  sat_of (k21 [aSh.enc sq] sq rfl ((andL_iff (l := c21.pre sq)).1 sq_fit)) (by simp only [avs, av_sh]; rfl) (by show (SV.tup [.lst .R (tOf sq), .int .i64 (eOf sq)]).av = _; rw [sq_tOf, sq_e]; simp only [SV.av, avs]; rfl)
theorem sq_c : Sat Tryz.prog false 28 [shapeP sq, ringsP sqT] (.bool true) :=
  sat_of (k28 [aSh.enc sq, .lst .R sqT] (sq, sqT) rfl ((andL_iff (l := c28.pre (sq, sqT))).1 ⟨sq_fit, show sqT.length ≤ 1000 by decide, show ∀ r ∈ sqT, r.length ≤ 1000 by decide⟩)) (by simp only [avs, av_sh, enc_Rs]; rfl) (by show (SV.bool (checkP sq sqT)).av = _; rw [sq_ck]; rfl)
theorem sq_sd : Sat Tryz.prog false 24 [segsP sqD, segsP sqD] (.bool true) :=
  sat_of (k24 [.lst .S sqD, .lst .S sqD] (sqD, sqD) rfl ((andL_iff (l := c24.pre (sqD, sqD))).1 (show sqD.length ≤ 1000000 by decide))) rfl (by show (SV.bool (sqD == sqD)).av = _; rw [beq_self_eq_true]; rfl)
theorem sq_st : Sat Tryz.prog false 25 [ringsP sqT, ringsP sqT] (.bool true) :=
  sat_of (k25 [.lst .R sqT, .lst .R sqT] (sqT, sqT) rfl ((andL_iff (l := c25.pre (sqT, sqT))).1 ⟨show sqT.length ≤ 1000000 by decide, show ∀ r ∈ sqT, r.length ≤ 100000 by decide⟩)) (by simp only [avs, enc_Rs]; rfl) (by show (SV.bool (sqT == sqT)).av = _; rw [beq_self_eq_true]; rfl)
set_option maxRecDepth 100000 in
set_option maxHeartbeats 4000000 in
theorem p_awake13  : Sat Tryz.prog false 15 [] (.bool true) := by
 refine sat_of_awp (by kernel_rfl) Tryz.func15 rfl ?_
 rw [Tryz.ntmps15, Tryz.results15]
 show awp _ _ (retP _ _ _) (un 53 []) [] 0
 simp only [un]
 refine pl 1 (by kernel_rfl) rfl fun K0 hK0 => ?_
 refine op (by simp only [go_sem, simprocAttr]; and_intros <;> first | rfl | trivial) (by simp only [PS]; rfl) ?_
 refine aops_done (hK0 _ _ _ ?_)
 refine awp_seq_join (fun Fz Lz Nz => Fz = (.p (.bool false) :: .ptr 7 0 :: .undef :: .undef :: .undef :: .undef :: .p (.agg [.int .i64 2, .int .i64 2]) :: .p (.agg [.int .i64 0, .int .i64 2]) :: .p (.agg [.int .i64 0, .int .i64 0]) :: .p (.agg [.int .i64 2, .int .i64 0]) :: .p (.sl [(⟨2, 2⟩ : Geo.V), (⟨0, 2⟩ : Geo.V), (⟨0, 0⟩ : Geo.V), (⟨2, 0⟩ : Geo.V)].length (encV [(⟨2, 2⟩ : Geo.V), (⟨0, 2⟩ : Geo.V), (⟨0, 0⟩ : Geo.V), (⟨2, 0⟩ : Geo.V)])) :: .any :: .undef :: .undef :: .undef :: .undef :: .undef :: .undef :: .undef :: .undef :: .undef :: .undef :: .undef :: .undef :: .undef :: .undef :: .undef :: .undef :: .undef :: .undef :: .undef :: .undef :: .undef :: .undef :: .undef :: .undef :: .undef :: .undef :: .undef :: .undef :: .undef :: .undef :: .undef :: .undef :: .undef :: .undef :: .undef :: .undef :: .undef :: .undef :: .undef :: .undef :: .undef :: []) ∧ Lz = [(7, some ⟨26, 0, [.p (.sl [(⟨2, 2⟩ : Geo.V), (⟨0, 2⟩ : Geo.V), (⟨0, 0⟩ : Geo.V), (⟨2, 0⟩ : Geo.V)].length (encV [(⟨2, 2⟩ : Geo.V), (⟨0, 2⟩ : Geo.V), (⟨0, 0⟩ : Geo.V), (⟨2, 0⟩ : Geo.V)])), .nil]⟩)] ∧ Nz = 9) ?_ ?_
 {
 refine ple 9 (by kernel_rfl) rfl fun K1 hK1 => ?_
 iterate 4 refine op (by simp only [go_sem, simprocAttr, PS]; and_intros <;> first | rfl | trivial) (by simp only [PS]; rfl) ?_
 refine st 5 5 rfl rfl rfl (by simp only [AOp, evalA, GD, bsliceA, repA, fillA, cellsA, setA, LC, ofConst, constA, Nat.reduceMul, Nat.reduceLeDiff, List.cons_ne_nil, ↓reduceIte, Nat.reduceAdd, LA, LB, T23, T44]; and_intros <;> first | rfl | trivial) (by simp only [PS]; rfl) (by simp only [GS]; rfl) ?_
 refine op (by simp only [go_sem, simprocAttr, PS]; and_intros <;> first | rfl | trivial) (by simp only [PS]; rfl) ?_
 refine st 7 7 rfl rfl rfl (by simp only [AOp, allocA, LA, T26]; and_intros <;> first | rfl | trivial) (by simp only [PS]; rfl) (by simp only [GS]; rfl) ?_
 refine st 8 8 rfl rfl rfl (by simp only [AOp, evalA, GD, storeA, cellsA, setA, LC, LB, look, LA, ↓reduceIte, Nat.reduceAdd, T26]; and_intros <;> first | rfl | trivial) (by simp only [PS]; rfl) (by simp only [GS]; rfl) ?_
 refine aops_done (hK1 _ _ _ ?_)
 try simp only
 refine ⟨_, _, _, ?w1, ⟨rfl, rfl, rfl⟩⟩
 refine weak_freeze (ty := 44) (esz := 2) 5 (encV [(⟨2, 2⟩ : Geo.V), (⟨0, 2⟩ : Geo.V), (⟨0, 0⟩ : Geo.V), (⟨2, 0⟩ : Geo.V)]) (by simp only [look, Nat.reduceEqDiff, ↓reduceIte]; try rfl) (by decide) ?_ ?_
 · simp only [frL, frS, reduceCtorEq, RL] <;> (and_intros <;> first | rfl | trivial | decide | exact .inl rfl | exact .inr (.inl rfl) | exact .inr (.inr ⟨_, rfl, rfl⟩) | exact .inr ⟨_, rfl, rfl⟩)
 · simp only [frL, frO, frS, look, Nat.reduceEqDiff, reduceCtorEq, ↓reduceIte, RL] <;> (and_intros <;> first | rfl | trivial | decide | exact .inl rfl | exact .inr (.inl rfl) | exact .inr (.inr ⟨_, rfl, rfl⟩) | exact .inr ⟨_, rfl, rfl⟩)
 }
 rintro _ _ _ ⟨hFz, rfl, rfl⟩
 (try simp only [an] at hFz); subst hFz
 have c2 : Sat Tryz.prog _ 19 [.agg [.sl [(⟨2, 2⟩ : Geo.V), (⟨0, 2⟩ : Geo.V), (⟨0, 0⟩ : Geo.V), (⟨2, 0⟩ : Geo.V)].length (encV [(⟨2, 2⟩ : Geo.V), (⟨0, 2⟩ : Geo.V), (⟨0, 0⟩ : Geo.V), (⟨2, 0⟩ : Geo.V)]), .sl 0 []]] (.tup [.sl sqD.length (encS sqD), .int .i64 0]) := sq_d
 refine pl 16 (by kernel_rfl) rfl fun K2 hK2 => ?_
 refine op (by simp only [go_sem, simprocAttr]; and_intros <;> first | rfl | trivial) (by simp only [PS]; rfl) ?_
 refine st 10 2 rfl rfl rfl (by simp only [AOp, evalA, GD, callA, LB]; exact .inl (goCall_drop (A := [.agg [.sl [(⟨2, 2⟩ : Geo.V), (⟨0, 2⟩ : Geo.V), (⟨0, 0⟩ : Geo.V), (⟨2, 0⟩ : Geo.V)].length (encV [(⟨2, 2⟩ : Geo.V), (⟨0, 2⟩ : Geo.V), (⟨0, 0⟩ : Geo.V), (⟨2, 0⟩ : Geo.V)]), .sl 0 []]]) c2 (by simp only [optM, snap, Option.map_some]; try rfl) (by simp only [flatM, refs, List.append_nil]; rfl) ⟨rfl, rfl, rfl⟩)) (by simp only [PS]; rfl) (by simp only [LB]; rfl) ?_
 iterate 5 refine op (by simp only [go_sem, simprocAttr]; and_intros <;> first | rfl | trivial) (by simp only [PS]; rfl) ?_
 refine aops_done (hK2 _ _ _ ?_)
 have c3 : Sat Tryz.prog _ 21 [.agg [.sl [(⟨2, 2⟩ : Geo.V), (⟨0, 2⟩ : Geo.V), (⟨0, 0⟩ : Geo.V), (⟨2, 0⟩ : Geo.V)].length (encV [(⟨2, 2⟩ : Geo.V), (⟨0, 2⟩ : Geo.V), (⟨0, 0⟩ : Geo.V), (⟨2, 0⟩ : Geo.V)]), .sl 0 []]] (.tup [.sl sqT.length (List.map ringP sqT), .int .i64 0]) := sq_t
 refine pl 23 (by kernel_rfl) rfl fun K3 hK3 => ?_
 refine op (by simp only [go_sem, simprocAttr]; and_intros <;> first | rfl | trivial) (by simp only [PS]; rfl) ?_
 refine st 17 2 rfl rfl rfl (by simp only [AOp, evalA, GD, callA, LB]; exact .inl (goCall_drop (A := [.agg [.sl [(⟨2, 2⟩ : Geo.V), (⟨0, 2⟩ : Geo.V), (⟨0, 0⟩ : Geo.V), (⟨2, 0⟩ : Geo.V)].length (encV [(⟨2, 2⟩ : Geo.V), (⟨0, 2⟩ : Geo.V), (⟨0, 0⟩ : Geo.V), (⟨2, 0⟩ : Geo.V)]), .sl 0 []]]) c3 (by simp only [optM, snap, Option.map_some]; try rfl) (by simp only [flatM, refs, List.append_nil]; rfl) ⟨rfl, rfl, rfl⟩)) (by simp only [PS]; rfl) (by simp only [LB]; rfl) ?_
 iterate 5 refine op (by simp only [go_sem, simprocAttr]; and_intros <;> first | rfl | trivial) (by simp only [PS]; rfl) ?_
 refine aops_done (hK3 _ _ _ ?_)
 have v4 : ((0 : Int) == 0) = true := by decide
 have c6 : Sat Tryz.prog _ 24 [.sl sqD.length (encS sqD), .sl 1 [.int .i64 0, .int .i64 0, .int .i64 2, .int .i64 2]] (.bool true) := sq_sd
 have c7 : Sat Tryz.prog _ 25 [.sl sqT.length (List.map ringP sqT), .sl 2 [.sl 3 [.int .i64 0, .int .i64 0, .int .i64 2, .int .i64 0, .int .i64 2, .int .i64 2], .sl 3 [.int .i64 0, .int .i64 0, .int .i64 2, .int .i64 2, .int .i64 0, .int .i64 2]]] (.bool true) := sq_st
 have c8 : Sat Tryz.prog _ 28 [.agg [.sl [(⟨2, 2⟩ : Geo.V), (⟨0, 2⟩ : Geo.V), (⟨0, 0⟩ : Geo.V), (⟨2, 0⟩ : Geo.V)].length (encV [(⟨2, 2⟩ : Geo.V), (⟨0, 2⟩ : Geo.V), (⟨0, 0⟩ : Geo.V), (⟨2, 0⟩ : Geo.V)]), .sl 0 []], .sl sqT.length (List.map ringP sqT)] (.bool true) := sq_c
 refine pl 55 (by kernel_rfl) rfl fun K4 hK4 => ?_
 iterate 10 refine op (by simp only [go_sem, simprocAttr, PS, v4, GG]; and_intros <;> first | rfl | trivial) (by simp only [PS]; rfl) ?_
 refine stg 33 11 rfl (by simp only [gdA, GG] <;> rfl) rfl rfl (by simp only [AOp, evalA, GD, bsliceA, repA, fillA, cellsA, setA, LC, ofConst, constA, Nat.reduceLeDiff, List.cons_ne_nil, ↓reduceIte, Nat.reduceAdd, LA, LB, T32, T46]; and_intros <;> first | rfl | trivial) (by simp only [PS]; rfl) (by simp only [GS]; rfl) ?_
 refine spg 12 rfl (by simp only [gdA, GG] <;> rfl) rfl (by simp only [AOp, evalA, GD, callA, LB]; exact .inl (goCall_fresh (A := [.sl sqD.length (encS sqD), .sl 1 [.int .i64 0, .int .i64 0, .int .i64 2, .int .i64 2]]) (c6.fresh rfl) (by simp only [optM, snap, look, Option.bind_some, Option.map_some, List.drop_zero, List.take_succ_cons, List.take_zero, Nat.reduceMul, ↓reduceIte]; try rfl) (by simp only [flatM, refs, look, List.append_nil, List.nil_append, ↓reduceIte]; rfl) ⟨rfl, rfl, rfl⟩)) (by simp only [PS]; rfl) ?_
 iterate 6 refine op (by simp only [go_sem, simprocAttr, PS, GG]; and_intros <;> first | rfl | trivial) (by simp only [PS]; rfl) ?_
 refine stg 41 19 rfl (by simp only [gdA, GG] <;> rfl) rfl rfl (by simp only [AOp, evalA, GD, bsliceA, repA, fillA, cellsA, setA, LC, ofConst, constA, Nat.reduceMul, Nat.reduceLeDiff, List.cons_ne_nil, ↓reduceIte, Nat.reduceAdd, LA, LB, T23, T44]; and_intros <;> first | rfl | trivial) (by simp only [PS]; rfl) (by simp only [GS]; rfl) ?_
 iterate 3 refine op (by simp only [go_sem, simprocAttr, GG, PS]; and_intros <;> first | rfl | trivial) (by simp only [PS]; rfl) ?_
 refine stg 45 23 rfl (by simp only [gdA, GG] <;> rfl) rfl rfl (by simp only [AOp, evalA, GD, bsliceA, repA, fillA, cellsA, setA, LC, ofConst, constA, Nat.reduceMul, Nat.reduceLeDiff, List.cons_ne_nil, ↓reduceIte, Nat.reduceAdd, LA, LB, T23, T44]; and_intros <;> first | rfl | trivial) (by simp only [PS]; rfl) (by simp only [GS]; rfl) ?_
 refine stg 46 24 rfl (by simp only [gdA, GG] <;> rfl) rfl rfl (by simp only [AOp, evalA, GD, bsliceA, repA, fillA, cellsA, setA, LC, ofConst, constA, Nat.reduceLeDiff, List.cons_ne_nil, ↓reduceIte, Nat.reduceAdd, LA, LB, T23, T24]; and_intros <;> first | rfl | trivial) (by simp only [PS]; rfl) (by simp only [GS]; rfl) ?_
 refine spg 25 rfl (by simp only [gdA, GG] <;> rfl) rfl (by simp only [AOp, evalA, GD, callA, LB]; exact .inl (goCall_fresh (A := [.sl sqT.length (List.map ringP sqT), .sl 2 [.sl 3 [.int .i64 0, .int .i64 0, .int .i64 2, .int .i64 0, .int .i64 2, .int .i64 2], .sl 3 [.int .i64 0, .int .i64 0, .int .i64 2, .int .i64 2, .int .i64 0, .int .i64 2]]]) (c7.fresh rfl) (by simp only [optM, snap, look, Nat.reduceEqDiff, Option.bind_some, Option.map_some, List.drop_zero, List.take_succ_cons, List.take_zero, Nat.reduceMul, ↓reduceIte]; try rfl) (by simp only [flatM, refs, look, Nat.reduceEqDiff, List.append_nil, List.cons_append, List.nil_append, ↓reduceIte]; rfl) ⟨rfl, rfl, rfl⟩)) (by simp only [PS]; rfl) ?_
 iterate 4 refine op (by simp only [go_sem, simprocAttr, GG]; and_intros <;> first | rfl | trivial) (by simp only [PS]; rfl) ?_
 refine spg 30 rfl (by simp only [gdA, GG] <;> rfl) rfl (by simp only [AOp, evalA, GD, callA, LB]; exact .inl (goCall_fresh (A := [.agg [.sl [(⟨2, 2⟩ : Geo.V), (⟨0, 2⟩ : Geo.V), (⟨0, 0⟩ : Geo.V), (⟨2, 0⟩ : Geo.V)].length (encV [(⟨2, 2⟩ : Geo.V), (⟨0, 2⟩ : Geo.V), (⟨0, 0⟩ : Geo.V), (⟨2, 0⟩ : Geo.V)]), .sl 0 []], .sl sqT.length (List.map ringP sqT)]) (c8.fresh rfl) (by simp only [optM, snap, Option.map_some]; try rfl) (by simp only [flatM, refs, List.append_nil]; rfl) ⟨rfl, rfl, rfl⟩)) (by simp only [PS]; rfl) ?_
 iterate 2 refine op (by simp only [go_sem, simprocAttr]; and_intros <;> first | rfl | trivial) (by simp only [PS]; rfl) ?_
 refine aops_done (hK4 _ _ _ ?_)
 refine awp_ret ?_
 try simp only [IF, reduceCtorEq, Nat.reduceEqDiff]
 try rw [hret]
 simp only [retP, resA, GD]
 first | exact ⟨_, rfl, rfl⟩ | (refine ⟨_, rfl, ?_⟩; rfl)
noncomputable def c15 : Con := conF false a0 (fun _ => []) (fun _ => .bool true)
theorem k15 : c15.Ok Tryz.prog 15 := con_sat (fun _ => []) (fun _ => .bool true) (fun _ => rfl) (fun _ => rfl) fun _ _ => p_awake13
noncomputable def t15 : Tab := tabL [(15, c15)] t28
theorem t15o : t15.Ok Tryz.prog := tabL_ok t28o ⟨k15, trivial⟩
end Go.Proofs.YtdaeofhdgabhjaaGreat
namespace Go.Proofs.YtdaeofhdgabhjaaGreat
open Go.RowKit
def FewL (l : List Geo.Ring) : Prop := l.length ≤ 1000000000000000000 ∧ ∀ r ∈ l, r.length ≤ 1000000000000000000
def VOk (v : Geo.V) : Prop := in64 v.x ∧ in64 v.y
def vecP (v : Geo.V) : PV := .agg [.int .i64 v.x, .int .i64 v.y]
end Go.Proofs.YtdaeofhdgabhjaaGreat
namespace Go.Proofs.YtdaeofhdgabhjaaGreat
open Go.ChangeShapes Go.WideShapes Go.ChangeAt Go.RowKit Go.Joins Go.Deep
theorem Tryz.own : ownKnob Tryz.prog.godebug = none := by kernel_rfl
theorem Tryz.laidOut : laidOutB Tryz.prog = true := by kernel_rfl
theorem cells26 : Tryz.prog.cellsOf 26 = 2 := by kernel_rfl
theorem cells44 : Tryz.prog.cellsOf 44 = 2 := by kernel_rfl
theorem cells23 : Tryz.prog.cellsOf 23 = 1 := by kernel_rfl
theorem bytes44 : Tryz.prog.bytesOf 44 = 16 := by kernel_rfl
theorem bytes23 : Tryz.prog.bytesOf 23 = 24 := by kernel_rfl
theorem repC_encV {C : CellP} : ∀ (l : List Geo.V) (b o : Nat), (∀ i (h : i < l.length), C b (o + i * 2) (.int .i64 l[i].x) ∧ C b (o + i * 2 + 1) (.int .i64 l[i].y)) → RepC C (encV l) b o
  | [], b, o, _ => by show RepC C [] b o; unfold RepC; trivial
  | v :: l, b, o, h => by
    show RepC C (.int .i64 v.x :: .int .i64 v.y :: encV l) b o
    have h0 := h 0 (by simp)
    unfold RepC
    refine ⟨⟨_, by simpa using h0.1, rfl, by unfold RepV; rfl⟩, ?_⟩
    unfold RepC
    refine ⟨⟨_, by simpa using h0.2, rfl, by unfold RepV; rfl⟩, ?_⟩
    refine repC_encV l b (o + 1 + 1) fun i hi => ?_
    have := h (i + 1) (by simpa using hi)
    rw [show o + 1 + 1 + i * 2 = o + (i + 1) * 2 by omega]
    exact this
theorem repC_rings {C : CellP} : ∀ (l : List Geo.Ring) (b o : Nat), (∀ i (h : i < l.length), ∃ u, C b (o + i) u ∧ u.oneCell' = true ∧ RepV C (ringP l[i]) u) → RepC C (l.map ringP) b o
  | [], b, o, _ => by simp only [List.map_nil]; unfold RepC; trivial
  | r :: l, b, o, h => by
    simp only [List.map_cons]
    unfold RepC
    refine ⟨h 0 (by simp), repC_rings l b (o + 1) fun i hi => ?_⟩
    have := h (i + 1) (by simpa using hi)
    rw [show o + 1 + i = o + (i + 1) by omega]
    exact this
section
variable {H : Type} {enc : TypeId × Value → H} {w : World} {base : Nat} {spare : Nat → Bool} {held : Bool}
theorem open_ring {fuel : Nat} {v : Value} {y : DataW H × List MemPlace} (h : DataW.trod enc Tryz.prog w base spare held fuel 23 [v] = some y) :
    ∃ r : Geo.Ring, RepV (cellW w) (ringP r) v ∧ v.oneCell' = true ∧ ∀ B, (∀ n ∈ DataW.weights Tryz.prog 23 y.1, n ≤ B) → r.length * 16 ≤ B := by
  rcases open_slice_pairs Tryz.underlying23 Tryz.underlying44 cells44 rfl rfl (by kernel_rfl) (by kernel_rfl) h with ⟨h1, h2⟩ | ⟨a, len, cap, m, n, V0, V1, D0, D1, P0, P1, h1, _, hl, _, hm, hx, hc⟩
  · simp only [List.cons.injEq, and_true] at h1
    subst h1
    refine ⟨[], ?_, rfl, fun B _ => by simp⟩
    unfold ringP RepV
    exact ⟨none, 0, rfl, Nat.le_refl _, fun _ => ⟨rfl, rfl⟩, fun ad e => by cases e⟩
  · simp only [List.cons.injEq, and_true] at h1
    subst h1
    have hlm : len ≤ m := by rw [hm]; split <;> omega
    have hint : ∀ i, i < m → ∃ p : Int × Int, V0 i = .int .i64 p.1 ∧ V1 i = .int .i64 p.2 := by
      intro i hi
      obtain ⟨_, _, g3, g4⟩ := hc i hi
      obtain ⟨p, hp, _⟩ := DataW.trod_int Tryz.underlying3 g3
      obtain ⟨q, hq, _⟩ := DataW.trod_int Tryz.underlying3 g4
      simp only [List.cons.injEq, and_true] at hp hq
      exact ⟨(p, q), hp, hq⟩
    obtain ⟨f, hf⟩ := choose_lt (α := Int × Int) (p := fun i p => V0 i = .int .i64 p.1 ∧ V1 i = .int .i64 p.2) hint
    refine ⟨(List.range len).map fun i => ⟨(f i).1, (f i).2⟩, ?_, rfl, fun B hB => ?_⟩
    · unfold ringP RepV
      refine ⟨some a, cap, by simp, by simpa using hl, (fun e => by cases e), fun ad e => ?_⟩
      cases e
      refine ⟨fun hpos => ?_, repC_encV _ _ _ fun i hi => ?_⟩
      · have h0 := (hc 0 (by simp at hpos; omega)).1
        simpa [Addr.add] using World.cell?_spot h0
      · simp only [List.length_map, List.length_range] at hi
        obtain ⟨g1, g2, _⟩ := hc i (by omega)
        obtain ⟨e0, e1⟩ := hf i (by omega)
        have hs : a.spot = none := by simpa [Addr.add] using World.cell?_spot (hc 0 (by omega)).1
        obtain ⟨b, off, sp⟩ := a
        dsimp only at hs
        subst hs
        rw [e0] at g1; rw [e1] at g2
        simp only [List.getElem_map, List.getElem_range]
        unfold cellW
        rw [Addr.add_mid] at g1 g2
        exact ⟨g1, g2⟩
    · have := hB ((len + (m - len)) * 16) (by rw [hx]; simp [DataW.weights, Tryz.underlying23, bytes44])
      simp only [List.length_map, List.length_range]
      omega
theorem open_rings {fuel : Nat} {v : Value} {y : DataW H × List MemPlace} (h : DataW.trod enc Tryz.prog w base spare held fuel 24 [v] = some y) :
    ∃ l : List Geo.Ring, RepV (cellW w) (ringsP l) v ∧ v.oneCell' = true ∧ ∀ B, (∀ n ∈ DataW.weights Tryz.prog 24 y.1, n ≤ B) → l.length * 24 ≤ B ∧ ∀ r ∈ l, r.length * 16 ≤ B := by
  rcases open_slice1 Tryz.underlying24 cells23 h with ⟨h1, h2⟩ | ⟨a, len, cap, m, n, V, D, Pl, h1, _, hl, _, hm, hx, hc⟩
  · simp only [List.cons.injEq, and_true] at h1
    subst h1
    refine ⟨[], ?_, rfl, fun B _ => ⟨by simp, fun r hr => by cases hr⟩⟩
    unfold ringsP RepV
    exact ⟨none, 0, rfl, Nat.le_refl _, fun _ => ⟨rfl, rfl⟩, fun ad e => by cases e⟩
  · simp only [List.cons.injEq, and_true] at h1
    subst h1
    have hlm : len ≤ m := by rw [hm]; split <;> omega
    have hring : ∀ i, i < m → ∃ r : Geo.Ring, RepV (cellW w) (ringP r) (V i) ∧ (V i).oneCell' = true ∧ ∀ B, (∀ n ∈ DataW.weights Tryz.prog 23 (D i), n ≤ B) → r.length * 16 ≤ B := fun i hi => open_ring (hc i hi).2
    obtain ⟨f, hf⟩ := choose_lt (α := Geo.Ring) (p := fun i r => RepV (cellW w) (ringP r) (V i) ∧ (V i).oneCell' = true ∧ ∀ B, (∀ n ∈ DataW.weights Tryz.prog 23 (D i), n ≤ B) → r.length * 16 ≤ B) hring
    refine ⟨(List.range len).map f, ?_, rfl, fun B hB => ?_⟩
    · unfold ringsP RepV
      refine ⟨some a, cap, by simp, by simpa using hl, (fun e => by cases e), fun ad e => ?_⟩
      cases e
      refine ⟨fun hpos => ?_, repC_rings _ _ _ fun i hi => ?_⟩
      · have h0 := (hc 0 (by simp at hpos; omega)).1
        simpa [Addr.add] using World.cell?_spot h0
      · simp only [List.length_map, List.length_range] at hi
        have g1 := (hc i (by omega)).1
        have hs : a.spot = none := by simpa [Addr.add] using World.cell?_spot (hc 0 (by omega)).1
        obtain ⟨b, off, sp⟩ := a
        dsimp only at hs
        subst hs
        rw [Addr.add_mid] at g1
        simp only [List.getElem_map, List.getElem_range]
        exact ⟨V i, g1, (hf i (by omega)).2.1, (hf i (by omega)).1⟩
    · have hw : ∀ x, x ∈ DataW.weights Tryz.prog 24 (DataW.slice ((List.range len).map D) ((List.range (m - len)).map fun j => D (len + j))) → x ≤ B := by rw [hx] at hB; exact hB
      have hmem : ∀ {l : List (DataW H)} {d : DataW H} {x : Nat}, d ∈ l → x ∈ DataW.weights Tryz.prog 23 d → x ∈ DataW.weightsAll Tryz.prog 23 l := by
        intro l
        induction l with
        | nil => intro d x h; cases h
        | cons e l ih =>
          intro d x hd hx
          simp only [DataW.weightsAll, List.mem_append]
          rcases List.mem_cons.1 hd with rfl | hd
          · exact .inl hx
          · exact .inr (ih hd hx)
      refine ⟨?_, fun r hr => ?_⟩
      · have := hw ((len + (m - len)) * 24) (by simp [DataW.weights, Tryz.underlying24, bytes23])
        simp only [List.length_map, List.length_range]
        omega
      · obtain ⟨i, hi, rfl⟩ := List.mem_map.1 hr
        have hi := List.mem_range.1 hi
        refine (hf i (by omega)).2.2 B fun x hx2 => hw x ?_
        simp only [DataW.weights, Tryz.underlying24, List.mem_cons, List.mem_append]
        exact .inr (.inl (hmem (List.mem_map.2 ⟨i, List.mem_range.2 hi, rfl⟩) hx2))
set_option maxRecDepth 100000 in
theorem open_shape {r : Reach} {b0 : Nat} {v : Value} {d : DataW H} {p : List MemPlace} (hv : Value.okWide Tryz.prog w r b0 26 v) (h : DataW.Trod enc Tryz.prog w base spare held 26 v d p) (hw : ∀ n ∈ DataW.weights Tryz.prog 26 d, n ≤ reachBytes) :
    ∃ s : Geo.Shape, RepV (cellW w) (shapeP s) v ∧ BigOk s := by
  obtain ⟨v0, v1, y0, y1, n, rfl, rfl, _, h0, h1⟩ := open_agg2 Tryz.underlying26 (by kernel_rfl) cells26 hv h
  obtain ⟨ro, g1, g2, g3⟩ := open_ring h0
  obtain ⟨rs, g4, g5, g6⟩ := open_rings h1
  have hB : reachBytes ≤ 140737488351232 := of_decide_eq_true (by kernel_rfl)
  have k1 := g3 reachBytes fun x hx => hw x (by simp only [DataW.weights, Tryz.underlying26, List.map_cons, DataW.weightsEach, List.mem_append]; exact .inl hx)
  have k2 := g6 reachBytes fun x hx => hw x (by simp only [DataW.weights, Tryz.underlying26, List.map_cons, DataW.weightsEach, List.mem_append]; exact .inr (.inl hx))
  refine ⟨⟨ro, rs⟩, ?_, by show ro.length ≤ _; omega, by show rs.length ≤ _; omega, fun q hq => by have := k2.2 q hq; omega⟩
  unfold shapeP RepV
  refine ⟨[v0, v1], rfl, ?_, ?_⟩
  · unfold RepL
    refine ⟨v0, [v1], rfl, g1, ?_⟩
    unfold RepL
    exact ⟨v1, [], rfl, g4, by unfold RepL; rfl⟩
  · intro u hu
    simp only [List.mem_cons, List.not_mem_nil, or_false] at hu
    rcases hu with rfl | rfl
    · exact g2
    · exact g5
set_option maxRecDepth 100000 in
theorem open_rings_few {r : Reach} {b0 : Nat} {v : Value} {d : DataW H} {p : List MemPlace} (hv : Value.okWide Tryz.prog w r b0 24 v) (h : DataW.Trod enc Tryz.prog w base spare held 24 v d p) (hw : ∀ n ∈ DataW.weights Tryz.prog 24 d, n ≤ reachBytes) :
    ∃ l : List Geo.Ring, RepV (cellW w) (ringsP l) v ∧ FewL l := by
  obtain ⟨a0, len, cap, rfl⟩ := okWide_slice Tryz.underlying24 hv
  obtain ⟨fuel, h⟩ := h
  obtain ⟨l, g1, _, g3⟩ := open_rings (v := .slice a0 len cap) h
  have hB : reachBytes ≤ 140737488351232 := of_decide_eq_true (by kernel_rfl)
  have k := g3 reachBytes hw
  exact ⟨l, g1, by omega, fun r hr => by have := k.2 r hr; omega⟩
end
section
variable {H : Type} {enc : TypeId × Value → H} {w : World} {base : Nat} {spare : Nat → Bool} {held : Bool}
end
theorem av_rsE (l : List Geo.Ring) : ((aL .R).enc l).av = .p (ringsP l) := enc_Rs l
end Go.Proofs.YtdaeofhdgabhjaaGreat
