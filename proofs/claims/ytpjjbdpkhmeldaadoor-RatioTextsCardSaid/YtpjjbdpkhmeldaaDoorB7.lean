/- contract of ratio's Cmp -/
import Derived.Test.YtpjjbdpkhmeldaaDoorB5
namespace Go.Proofs.YtpjjbdpkhmeldaaDoor
open Go.RowKit

def cmpS (an ad bn bd : Int) : Int := if validB an ad && validB bn bd then sgn (an * bd - bn * ad) else 0

/-- two ratios' boxes -/
def B2 (w : World) (an ad bn bd : Int) (w' : World) : Prop :=
  Below w.heap.size w w' ∧ Box w' w.heap.size 23 [.int .i64 an, .int .i64 ad] ∧ Box w' (w.heap.size + 1) 23 [.int .i64 bn, .int .i64 bd]
theorem B2.step {w : World} {an ad bn bd : Int} {w1 w2 : World} (hb : Below w1.heap.size w1 w2) (h : B2 w an ad bn bd w1) : B2 w an ad bn bd w2 := by
  obtain ⟨h1, h2, h3⟩ := h
  exact ⟨h1.trans (hb.mono h1.size), h2.below hb, h3.below hb⟩
theorem B2.start (w : World) (an ad bn bd : Int) : B2 w an ad bn bd ((w.alloc (Obj.cells #[.int .i64 an, .int .i64 ad] 23)).alloc (Obj.cells #[.int .i64 bn, .int .i64 bd] 23)) := by
  have e1 := Box.made w 23 [.int .i64 an, .int .i64 ad]
  have e2 := Box.made (w.alloc (Obj.cells #[.int .i64 an, .int .i64 ad] 23)) 23 [.int .i64 bn, .int .i64 bd]
  rw [alloc_size] at e2
  exact ⟨((Below.refl _ _).alloc (Nat.le_refl _) _).alloc (by simp) _, e1.alloc _, e2⟩
theorem B2.cells {w : World} {an ad bn bd : Int} {w' : World} (h : B2 w an ad bn bd w') :
    w'.cell? ⟨w.heap.size, 0, none⟩ = some (.int .i64 an) ∧ w'.cell? ⟨w.heap.size, 1, none⟩ = some (.int .i64 ad) ∧ w'.cell? ⟨w.heap.size + 1, 0, none⟩ = some (.int .i64 bn) ∧ w'.cell? ⟨w.heap.size + 1, 1, none⟩ = some (.int .i64 bd) :=
  ⟨h.2.1.cell 0 _ rfl, h.2.1.cell 1 _ rfl, h.2.2.cell 0 _ rfl, h.2.2.cell 1 _ rfl⟩

theorem sgn_neg {a : Int} (h : a < 0) : sgn a = -1 := if_pos h
theorem sgn_pos {a : Int} (h : 0 < a) : sgn a = 1 := by unfold sgn; rw [if_neg (by omega), if_pos h]
theorem sgn_zero : sgn 0 = 0 := rfl
theorem sgn_cases (a : Int) : (a < 0 ∧ sgn a = -1) ∨ (a = 0 ∧ sgn a = 0) ∨ (0 < a ∧ sgn a = 1) := by
  rcases Int.lt_trichotomy a 0 with h | h | h
  · exact .inl ⟨h, sgn_neg h⟩
  · exact .inr (.inl ⟨h, by rw [h]; rfl⟩)
  · exact .inr (.inr ⟨h, sgn_pos h⟩)

theorem sgn_mul_pos (a b : Int) (h : 0 < b) : sgn (a * b) = sgn a := by
  rcases Int.lt_trichotomy a 0 with h1 | h1 | h1
  · rw [sgn_neg h1, sgn_neg (Int.mul_neg_of_neg_of_pos h1 h)]
  · subst h1; simp
  · rw [sgn_pos h1, sgn_pos (Int.mul_pos h1 h)]

/-- unlike signs, or nought -/
theorem cmp_signs (an ad bn bd : Int) (ha : 0 < ad) (hb : 0 < bd) (h : sgn an ≠ sgn bn ∨ sgn an = 0) : sgn (sgn an - sgn bn) = sgn (an * bd - bn * ad) := by
  have e1 := sgn_mul_pos an bd hb
  have e2 := sgn_mul_pos bn ad ha
  rw [← e1, ← e2]
  rw [← e1, ← e2] at h
  generalize an * bd = x at *
  generalize bn * ad = y at *
  rcases sgn_cases x with ⟨a1, a2⟩ | ⟨a1, a2⟩ | ⟨a1, a2⟩ <;> rcases sgn_cases y with ⟨b1, b2⟩ | ⟨b1, b2⟩ | ⟨b1, b2⟩ <;> rw [a2, b2] at h ⊢ <;> rcases sgn_cases (x - y) with ⟨c1, c2⟩ | ⟨c1, c2⟩ | ⟨c1, c2⟩ <;> rw [c2] <;> first | rfl | omega | (exfalso; omega)

theorem cmp_abs (an ad bn bd : Int) (ha : 0 < ad) (hb : 0 < bd) (h : sgn an = sgn bn) (h0 : sgn an ≠ 0) :
    (bn.natAbs * ad.natAbs < an.natAbs * bd.natAbs → sgn an = sgn (an * bd - bn * ad)) ∧ (an.natAbs * bd.natAbs < bn.natAbs * ad.natAbs → -sgn an = sgn (an * bd - bn * ad)) ∧ (an.natAbs * bd.natAbs = bn.natAbs * ad.natAbs → 0 = sgn (an * bd - bn * ad)) := by
  rw [← Int.natAbs_mul, ← Int.natAbs_mul]
  have e1 := sgn_mul_pos an bd hb
  have e2 := sgn_mul_pos bn ad ha
  rw [← e1, ← e2] at h
  rw [← e1] at h0
  rw [← e1]
  generalize an * bd = x at *
  generalize bn * ad = y at *
  rcases sgn_cases x with ⟨a1, a2⟩ | ⟨a1, a2⟩ | ⟨a1, a2⟩ <;> rcases sgn_cases y with ⟨b1, b2⟩ | ⟨b1, b2⟩ | ⟨b1, b2⟩ <;> rw [a2, b2] at h <;> rw [a2] at h0 ⊢ <;> (try (exfalso; omega)) <;> rcases sgn_cases (x - y) with ⟨c1, c2⟩ | ⟨c1, c2⟩ | ⟨c1, c2⟩ <;> rw [c2] <;> (refine ⟨?_, ?_, ?_⟩ <;> intro _ <;> omega)

end Go.Proofs.YtpjjbdpkhmeldaaDoor
