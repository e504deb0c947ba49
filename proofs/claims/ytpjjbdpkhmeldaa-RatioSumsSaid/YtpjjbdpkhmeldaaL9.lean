/- plain law: sums of ratios -/
import Derived.Test.YtpjjbdpkhmeldaaR9
import Derived.Test.YtpjjbdpkhmeldaaL5
namespace Go.Proofs.Ytpjjbdpkhmeldaa
open Go.RowKit

/-- the sum of two fractions, not reduced -/
def opQ (x y : Int × Int) : Int × Int := (x.1 * y.2 + y.1 * x.2, x.2 * y.2)
def sumQ (l : List (Int × Int)) : Int × Int := l.foldl opQ (0, 1)

theorem opQ_comm (x y : Int × Int) : opQ x y = opQ y x := by unfold opQ; ext <;> simp only [] <;> grind
theorem opQ_assoc (x y z : Int × Int) : opQ (opQ x y) z = opQ x (opQ y z) := by unfold opQ; ext <;> simp only [] <;> grind
theorem opQ_zero (x : Int × Int) : opQ (0, 1) x = x := by unfold opQ; ext <;> simp

theorem foldl_opQ (l : List (Int × Int)) (x : Int × Int) : l.foldl opQ x = opQ x (sumQ l) := by
  induction l generalizing x with
  | nil => unfold sumQ; rw [List.foldl_nil, List.foldl_nil, opQ_comm, opQ_zero]
  | cons a l ih =>
    unfold sumQ
    rw [List.foldl_cons, List.foldl_cons, ih, ih (opQ (0, 1) a), opQ_zero, opQ_assoc]

theorem sumQ_cons (a : Int × Int) (l : List (Int × Int)) : sumQ (a :: l) = opQ a (sumQ l) := by
  conv => lhs; unfold sumQ
  rw [List.foldl_cons, foldl_opQ, opQ_zero]

theorem sumQ_snoc (l : List (Int × Int)) (a : Int × Int) : sumQ (l ++ [a]) = opQ (sumQ l) a := by
  unfold sumQ; rw [List.foldl_append]; rfl

theorem sumQ_reverse (l : List (Int × Int)) : sumQ l.reverse = sumQ l := by
  induction l with
  | nil => rfl
  | cons a l ih => rw [List.reverse_cons, sumQ_snoc, sumQ_cons, ih, opQ_comm]

theorem sumQ_take (l : List (Int × Int)) (k : Nat) (h : k < l.length) : sumQ (l.take (k + 1)) = opQ (sumQ (l.take k)) l[k] := by
  rw [List.take_succ_eq_append_getElem h, sumQ_snoc]

def sg3 (o : Bool × Nat × Nat) : Int := if o.1 then -(o.2.1 : Int) else (o.2.1 : Int)

/-- the same number -/
def Eqv (o : Bool × Nat × Nat) (q : Int × Int) : Prop := sg3 o * q.2 = q.1 * (o.2.2 : Int) ∧ 0 < o.2.2 ∧ 0 < q.2

theorem Eqv.R {o : Bool × Nat × Nat} {q : Int × Int} (h : Eqv o q) : ratioS o.1 o.2.1 o.2.2 = Ytpjjbdpkhmeldaa.R q.1 q.2 := by
  obtain ⟨h1, h2, h3⟩ := h
  rw [ratioS_R]
  exact R_congr _ _ _ _ (by omega) h3 h1

theorem lowS_val (g : Bool) (m n : Nat) (hn : 0 < n) : sg3 (lowS g m n) * (n : Int) = (if g then -(m : Int) else (m : Int)) * ((lowS g m n).2.2 : Int) ∧ 0 < (lowS g m n).2.2 := by
  have g1 : 0 < Nat.gcd m n := Nat.gcd_pos_of_pos_right _ hn
  have e1 : m / Nat.gcd m n * Nat.gcd m n = m := Nat.div_mul_cancel (Nat.gcd_dvd_left m n)
  have e2 : n / Nat.gcd m n * Nat.gcd m n = n := Nat.div_mul_cancel (Nat.gcd_dvd_right m n)
  have p : 0 < n / Nat.gcd m n := Nat.div_pos (Nat.gcd_le_right m hn) g1
  unfold sg3 lowS
  simp only []
  generalize Nat.gcd m n = f at *
  generalize m / f = a at *
  generalize n / f = b at *
  subst e1 e2
  refine ⟨?_, p⟩
  rcases Nat.eq_zero_or_pos a with h0 | h0
  · subst h0
    cases g <;> simp
  · rw [decide_eq_true h0, Bool.and_true]
    cases g
    · simp only [Bool.false_eq_true, if_false]
      rw [Int.natCast_mul, Int.natCast_mul]; grind
    · simp only [if_true]
      rw [Int.natCast_mul, Int.natCast_mul]; grind

theorem Eqv.plus {o : Bool × Nat × Nat} {q : Int × Int} (h : Eqv o q) (p : Int × Int) (hp : 0 < p.2) : Eqv (plusS o.1 o.2.1 o.2.2 (decide (p.1 < 0)) p.1.natAbs p.2.natAbs) (opQ q p) := by
  obtain ⟨h1, h2, h3⟩ := h
  have hv := plusS_val o.1 o.2.1 o.2.2 (decide (p.1 < 0)) p.1.natAbs p.2.natAbs
  rw [sg_abs] at hv
  have hd := plusS_den o.1 o.2.1 o.2.2 (decide (p.1 < 0)) p.1.natAbs p.2.natAbs
  have ep : (p.2.natAbs : Int) = p.2 := by omega
  refine ⟨?_, by rw [hd]; exact Nat.mul_pos h2 (by omega), Int.mul_pos h3 hp⟩
  have hs : sg3 (plusS o.1 o.2.1 o.2.2 (decide (p.1 < 0)) p.1.natAbs p.2.natAbs) = sg3 o * p.2 + p.1 * (o.2.2 : Int) := by
    unfold sg3
    rw [hv, ep]
  rw [hs, hd, Int.natCast_mul, ep]
  unfold opQ
  simp only []
  grind

theorem Eqv.stepG {o : Bool × Nat × Nat} {q : Int × Int} (h : Eqv o q) (p : Int × Int) (hp : 0 < p.2) : Eqv (Ytpjjbdpkhmeldaa.stepG o p) (opQ q p) := by
  obtain ⟨h1, h2, h3⟩ := h.plus p hp
  unfold Ytpjjbdpkhmeldaa.stepG
  generalize plusS o.1 o.2.1 o.2.2 (decide (p.1 < 0)) p.1.natAbs p.2.natAbs = r at *
  obtain ⟨e1, e2⟩ := lowS_val r.1 r.2.1 r.2.2 h2
  refine ⟨?_, e2, h3⟩
  have h1' : (if r.1 then -(r.2.1 : Int) else (r.2.1 : Int)) * (opQ q p).2 = (opQ q p).1 * (r.2.2 : Int) := h1
  refine mul_cancel_pos (k := (r.2.2 : Int)) (by omega) ?_
  generalize (opQ q p).1 = A at *
  generalize (opQ q p).2 = B at *
  generalize sg3 (lowS r.1 r.2.1 r.2.2) = S at *
  generalize ((lowS r.1 r.2.1 r.2.2).2.2 : Int) = N at *
  generalize (if r.1 then -(r.2.1 : Int) else (r.2.1 : Int)) = M at *
  generalize (r.2.2 : Int) = d at *
  calc S * B * d = (S * d) * B := by grind
    _ = (M * N) * B := by rw [e1]
    _ = (M * B) * N := by grind
    _ = (A * d) * N := by rw [h1']
    _ = A * N * d := by grind

theorem Eqv.stepS {o : Bool × Nat × Nat} {q : Int × Int} (h : Eqv o q) (p : Int × Int) (hp : 0 < p.2) : Eqv (Ytpjjbdpkhmeldaa.stepS o p) (opQ q p) := by
  unfold Ytpjjbdpkhmeldaa.stepS
  split
  · rename_i he
    obtain ⟨h1, h2, h3⟩ := h
    have hv := plusS_val o.1 o.2.1 1 (decide (p.1 < 0)) p.1.natAbs 1
    rw [sg_abs] at hv
    have ep : (o.2.2 : Int) = p.2 := by omega
    refine ⟨?_, h2, Int.mul_pos h3 hp⟩
    show (if (plusS o.1 o.2.1 1 (decide (p.1 < 0)) p.1.natAbs 1).1 then -((plusS o.1 o.2.1 1 (decide (p.1 < 0)) p.1.natAbs 1).2.1 : Int) else _) * _ = _ * (o.2.2 : Int)
    rw [hv]
    have h1' : (if o.1 then -(o.2.1 : Int) else (o.2.1 : Int)) * q.2 = q.1 * (o.2.2 : Int) := h1
    generalize (if o.1 then -(o.2.1 : Int) else (o.2.1 : Int)) = M at *
    rw [ep] at h1' ⊢
    unfold opQ
    simp only []
    have : ((1 : Nat) : Int) = 1 := rfl
    rw [this]
    grind
  · exact h.plus p hp

theorem Eqv.start : Eqv (false, 0, 1) (0, 1) := ⟨by unfold sg3; rfl, by decide, by decide⟩

theorem foldl_eqv (st : Bool × Nat × Nat → Int × Int → Bool × Nat × Nat) (hst : ∀ o q p, Eqv o q → 0 < p.2 → Eqv (st o p) (opQ q p)) (l : List (Int × Int)) (hl : ∀ p ∈ l, 0 < p.2) (o : Bool × Nat × Nat) (q : Int × Int) (h : Eqv o q) : Eqv (l.foldl st o) (l.foldl opQ q) := by
  induction l generalizing o q with
  | nil => exact h
  | cons a l ih =>
    rw [List.foldl_cons, List.foldl_cons]
    exact ih (fun p hp => hl p (List.mem_cons_of_mem _ hp)) _ _ (hst o q a h (hl a List.mem_cons_self))

theorem allV_pos {l : List (Int × Int)} (h : allV l = true) : ∀ p ∈ l, 0 < p.2 := by
  intro p hp
  unfold allV at h
  rw [List.all_eq_true] at h
  have := (validB_true (h p hp)).1
  omega

theorem sumF_R {l : List (Int × Int)} (h : allV l = true) : ratioS (sumF l).1 (sumF l).2.1 (sumF l).2.2 = R (sumQ l).1 (sumQ l).2 :=
  (foldl_eqv Ytpjjbdpkhmeldaa.stepS (fun _ _ p h hp => h.stepS p hp) l (allV_pos h) _ _ Eqv.start).R
theorem sumG_R {l : List (Int × Int)} (h : allV l = true) : ratioS (sumG l).1 (sumG l).2.1 (sumG l).2.2 = R (sumQ l).1 (sumQ l).2 :=
  (foldl_eqv Ytpjjbdpkhmeldaa.stepG (fun _ _ p h hp => h.stepG p hp) l (allV_pos h) _ _ Eqv.start).R
theorem sumQ_pos {l : List (Int × Int)} (h : allV l = true) : 0 < (sumQ l).2 :=
  (foldl_eqv Ytpjjbdpkhmeldaa.stepG (fun _ _ p h hp => h.stepG p hp) l (allV_pos h) _ _ Eqv.start).2.2

theorem sumS_R {l : List (Int × Int)} (h : allV l = true) : sumS l = R (sumQ l).1 (sumQ l).2 := by
  unfold sumS; rw [h, ← sumF_R h]; rfl

theorem allV_reverse (l : List (Int × Int)) : allV l.reverse = allV l := by unfold allV; exact List.all_reverse

theorem sumS_reverse (l : List (Int × Int)) : sumS l.reverse = sumS l := by
  rcases Bool.eq_false_or_eq_true (allV l) with h | h
  · rw [sumS_R h, sumS_R (by rw [allV_reverse]; exact h), sumQ_reverse]
  · unfold sumS; rw [allV_reverse, h]; rfl

/-- Add, one after the other -/
def Chain (l : List (Int × Int)) (s1 s2 : Int) (k : Nat) : Prop := allV (l.take k) = true ∧ validB s1 s2 = true ∧ s1 * (sumQ (l.take k)).2 = (sumQ (l.take k)).1 * s2

theorem Chain.start (l : List (Int × Int)) : Chain l 0 1 0 := ⟨rfl, by decide, by simp [sumQ]⟩

theorem Chain.step {l : List (Int × Int)} {s1 s2 : Int} {k : Nat} (h : Chain l s1 s2 k) (hk : k < l.length) (y1 y2 e : Int) (hy : (y1, y2, e) = addS s1 s2 l[k].1 l[k].2) (he : e = 0) : Chain l y1 y2 (k + 1) := by
  obtain ⟨h1, h2, h3⟩ := h
  subst he
  have hv : validB l[k].1 l[k].2 = true := by
    rcases Bool.eq_false_or_eq_true (validB l[k].1 l[k].2) with h | h
    · exact h
    · exfalso
      have : addS s1 s2 l[k].1 l[k].2 = (0, 0, 1) := by unfold addS; rw [h2, h]; rfl
      rw [this] at hy
      simp at hy
  obtain ⟨_, _, _, hs⟩ := add_facts s1 s2 l[k].1 l[k].2 h2 hv y1 y2 0 hy
  obtain ⟨hw, hm⟩ := hs rfl
  have hp := (validB_true h2).1
  refine ⟨?_, hw, ?_⟩
  · rw [List.take_succ_eq_append_getElem hk]
    unfold allV at h1 ⊢
    rw [List.all_append, h1]
    simp [hv]
  · rw [sumQ_take l k hk]
    unfold opQ
    simp only []
    refine mul_cancel_pos (k := s2) (by omega) ?_
    generalize (sumQ (l.take k)).1 = A at *
    generalize (sumQ (l.take k)).2 = B at *
    generalize l[k].1 = n at *
    generalize l[k].2 = d at *
    grind

theorem add_i64 (s1 s2 n d y1 y2 e : Int) (h : (y1, y2, e) = addS s1 s2 n d) : I64 y1 ∧ I64 y2 := by
  rcases Bool.eq_false_or_eq_true (validB s1 s2 && validB n d) with hv | hv
  · rw [Bool.and_eq_true] at hv
    obtain ⟨h1, h2, _⟩ := add_facts s1 s2 n d hv.1 hv.2 y1 y2 e h
    exact ⟨h1, h2⟩
  · have : addS s1 s2 n d = (0, 0, 1) := by unfold addS; rw [hv]; rfl
    rw [this] at h
    simp only [Prod.mk.injEq] at h
    obtain ⟨rfl, rfl, rfl⟩ := h
    exact ⟨⟨by omega, by omega⟩, ⟨by omega, by omega⟩⟩

theorem Chain.fin {l : List (Int × Int)} {s1 s2 : Int} (h : Chain l s1 s2 l.length) : sumS l = (s1, s2, 0) := by
  obtain ⟨h1, h2, h3⟩ := h
  rw [List.take_length] at h1 h3
  rw [sumS_R h1, ← R_canon s1 s2 h2]
  exact R_congr _ _ _ _ (sumQ_pos h1) (by have := (validB_true h2).1; omega) h3.symm

/-- a row of ratios, flat -/
def flat : List (Int × Int) → List Value
  | [] => []
  | p :: l => .int .i64 p.1 :: .int .i64 p.2 :: flat l

theorem flat_length (l : List (Int × Int)) : (flat l).length = l.length * 2 := by
  induction l with
  | nil => rfl
  | cons a l ih => simp [flat, ih]; omega

theorem flat_get (l : List (Int × Int)) (k : Nat) (h : k < l.length) : (flat l)[k * 2]? = some (.int .i64 l[k].1) ∧ (flat l)[k * 2 + 1]? = some (.int .i64 l[k].2) := by
  induction l generalizing k with
  | nil => simp at h
  | cons a l ih =>
    cases k with
    | zero => exact ⟨rfl, rfl⟩
    | succ k =>
      have := ih k (by simpa using h)
      have e1 : (k + 1) * 2 = k * 2 + 1 + 1 := by omega
      rw [e1]
      exact this

theorem flat_set (l : List (Int × Int)) (k : Nat) (x y : Int) (h : k < l.length) : ((flat l).set (k * 2) (.int .i64 x)).set (k * 2 + 1) (.int .i64 y) = flat (l.set k (x, y)) := by
  induction l generalizing k with
  | nil => simp at h
  | cons a l ih =>
    cases k with
    | zero => rfl
    | succ k =>
      have := ih k (by simpa using h)
      have e1 : (k + 1) * 2 = k * 2 + 1 + 1 := by omega
      rw [e1]
      show _ :: _ :: _ = _ :: _ :: _
      congr 2

theorem flat_zero (n : Nat) : (flat (List.replicate n (0, 0))).toArray = madeCells #[Value.int .i64 0, Value.int .i64 0] (n * 2) := by
  apply Array.ext
  · simp [flat_length, madeCells]
  · intro i h1 h2
    have hi : i < n * 2 := by simpa [flat_length] using h1
    obtain ⟨k, hk⟩ : ∃ k, i = k * 2 ∨ i = k * 2 + 1 := ⟨i / 2, by omega⟩
    have hkn : k < (List.replicate n ((0 : Int), (0 : Int))).length := by rw [List.length_replicate]; omega
    obtain ⟨e1, e2⟩ := flat_get (List.replicate n (0, 0)) k hkn
    simp only [List.getElem_replicate] at e1 e2
    rcases hk with rfl | rfl
    · rw [List.getElem?_eq_getElem (by rw [flat_length, List.length_replicate]; omega)] at e1
      simp [madeCells, Option.some.inj e1]
    · rw [List.getElem?_eq_getElem (by rw [flat_length, List.length_replicate]; omega)] at e2
      simp [madeCells, Option.some.inj e2]

end Go.Proofs.Ytpjjbdpkhmeldaa
