/- the law RatioOrder: the walk -/
import Derived.Test.YtpjjbdpkhmeldaaL3
import Derived.Deep.DeepCutAuto
namespace Go.Proofs.Ytpjjbdpkhmeldaa
open Go.RowKit

/-- three ratios' boxes -/
def TrS (w : World) (an ad bn bd cn cd : Int) (w' : World) : Prop :=
  Below w.heap.size w w' ∧ Box w' w.heap.size 25 [.int .i64 an, .int .i64 ad] ∧ Box w' (w.heap.size + 1) 25 [.int .i64 bn, .int .i64 bd] ∧ Box w' (w.heap.size + 2) 25 [.int .i64 cn, .int .i64 cd]
section
variable {w : World} {an ad bn bd cn cd : Int}
theorem TrS.step {w1 w2 : World} (hb : Below w1.heap.size w1 w2) (h : TrS w an ad bn bd cn cd w1) : TrS w an ad bn bd cn cd w2 := by
  obtain ⟨h1, h2, h3, h4⟩ := h
  exact ⟨h1.trans (hb.mono h1.size), h2.below hb, h3.below hb, h4.below hb⟩
theorem TrS.drew {w1 : World} (h : TrS w an ad bn bd cn cd w1) : TrS w an ad bn bd cn cd w1.drew := ⟨h.1.drew, h.2.1, h.2.2.1, h.2.2.2⟩
theorem TrS.al {w1 : World} (h : TrS w an ad bn bd cn cd w1) (o : Obj) : TrS w an ad bn bd cn cd (w1.alloc o) := ⟨h.1.alloc h.1.size _, h.2.1.alloc _, h.2.2.1.alloc _, h.2.2.2.alloc _⟩
theorem TrS.start (w : World) (an ad bn bd cn cd : Int) : TrS w an ad bn bd cn cd (((w.alloc (Obj.cells #[.int .i64 an, .int .i64 ad] 25)).alloc (Obj.cells #[.int .i64 bn, .int .i64 bd] 25)).alloc (Obj.cells #[.int .i64 cn, .int .i64 cd] 25)) := by
  have e1 := Box.made w 25 [.int .i64 an, .int .i64 ad]
  have e2 := Box.made (w.alloc (Obj.cells #[.int .i64 an, .int .i64 ad] 25)) 25 [.int .i64 bn, .int .i64 bd]
  have e3 := Box.made ((w.alloc (Obj.cells #[.int .i64 an, .int .i64 ad] 25)).alloc (Obj.cells #[.int .i64 bn, .int .i64 bd] 25)) 25 [.int .i64 cn, .int .i64 cd]
  have l1 := (Below.refl w.heap.size w).alloc (Nat.le_refl _) (Obj.cells #[.int .i64 an, .int .i64 ad] 25)
  have l2 := l1.alloc l1.size (Obj.cells #[.int .i64 bn, .int .i64 bd] 25)
  refine ⟨l2.alloc l2.size _, (e1.alloc _).alloc _, ?_, ?_⟩
  · have := e2.alloc (Obj.cells #[.int .i64 cn, .int .i64 cd] 25)
    rw [alloc_size] at this
    exact this
  · rw [alloc_size, alloc_size] at e3
    exact e3
theorem TrS.cells {w' : World} (h : TrS w an ad bn bd cn cd w') :
    w'.cell? ⟨w.heap.size, 0, none⟩ = some (.int .i64 an) ∧ w'.cell? ⟨w.heap.size, 1, none⟩ = some (.int .i64 ad) ∧ w'.cell? ⟨w.heap.size + 1, 0, none⟩ = some (.int .i64 bn) ∧ w'.cell? ⟨w.heap.size + 1, 1, none⟩ = some (.int .i64 bd) ∧
    w'.cell? ⟨w.heap.size + 1 + 1, 0, none⟩ = some (.int .i64 cn) ∧ w'.cell? ⟨w.heap.size + 1 + 1, 1, none⟩ = some (.int .i64 cd) :=
  ⟨h.2.1.cell 0 _ rfl, h.2.1.cell 1 _ rfl, h.2.2.1.cell 0 _ rfl, h.2.2.1.cell 1 _ rfl, h.2.2.2.cell 0 _ rfl, h.2.2.2.cell 1 _ rfl⟩
def OrS (w : World) (an ad bn bd cn cd q1 q2 r1 r2 : Int) (b1 b2 : Nat) (w' : World) : Prop := TrS w an ad bn bd cn cd w' ∧ Box w' b1 25 [.int .i64 q1, .int .i64 q2] ∧ Box w' b2 25 [.int .i64 r1, .int .i64 r2]
theorem OrS.mk {q1 q2 r1 r2 : Int} {b1 b2 : Nat} {w' : World} (h : TrS w an ad bn bd cn cd w') (h1 : Box w' b1 25 [.int .i64 q1, .int .i64 q2]) (h2 : Box w' b2 25 [.int .i64 r1, .int .i64 r2]) : OrS w an ad bn bd cn cd q1 q2 r1 r2 b1 b2 w' := ⟨h, h1, h2⟩
theorem OrS.drew {q1 q2 r1 r2 : Int} {b1 b2 : Nat} {w' : World} (h : OrS w an ad bn bd cn cd q1 q2 r1 r2 b1 b2 w') : OrS w an ad bn bd cn cd q1 q2 r1 r2 b1 b2 w'.drew := ⟨h.1.drew, h.2⟩
theorem OrS.step {q1 q2 r1 r2 : Int} {b1 b2 : Nat} {w1 w2 : World} (hb : Below w1.heap.size w1 w2) (h : OrS w an ad bn bd cn cd q1 q2 r1 r2 b1 b2 w1) : OrS w an ad bn bd cn cd q1 q2 r1 r2 b1 b2 w2 := ⟨h.1.step hb, h.2.1.below hb, h.2.2.below hb⟩
theorem OrS.all {q1 q2 r1 r2 : Int} {b1 b2 : Nat} {w' : World} (h : OrS w an ad bn bd cn cd q1 q2 r1 r2 b1 b2 w') : OrS w an ad bn bd cn cd q1 q2 r1 r2 b1 b2 w' ∧
    w'.cell? ⟨w.heap.size + 1 + 1, 0, none⟩ = some (.int .i64 cn) ∧ w'.cell? ⟨w.heap.size + 1 + 1, 1, none⟩ = some (.int .i64 cd) ∧ w'.cell? ⟨b1, 0, none⟩ = some (.int .i64 q1) ∧ w'.cell? ⟨b1, 1, none⟩ = some (.int .i64 q2) ∧ w'.cell? ⟨b2, 0, none⟩ = some (.int .i64 r1) ∧ w'.cell? ⟨b2, 1, none⟩ = some (.int .i64 r2) :=
  ⟨h, h.1.2.2.2.cell 0 _ rfl, h.1.2.2.2.cell 1 _ rfl, h.2.1.cell 0 _ rfl, h.2.1.cell 1 _ rfl, h.2.2.cell 0 _ rfl, h.2.2.cell 1 _ rfl⟩
theorem TrS.all {w' : World} (h : TrS w an ad bn bd cn cd w') : TrS w an ad bn bd cn cd w' ∧
    w'.cell? ⟨w.heap.size, 0, none⟩ = some (.int .i64 an) ∧ w'.cell? ⟨w.heap.size, 1, none⟩ = some (.int .i64 ad) ∧ w'.cell? ⟨w.heap.size + 1, 0, none⟩ = some (.int .i64 bn) ∧ w'.cell? ⟨w.heap.size + 1, 1, none⟩ = some (.int .i64 bd) ∧
    w'.cell? ⟨w.heap.size + 1 + 1, 0, none⟩ = some (.int .i64 cn) ∧ w'.cell? ⟨w.heap.size + 1 + 1, 1, none⟩ = some (.int .i64 cd) := ⟨h, h.cells⟩
end

theorem order_plain (an ad bn bd cn cd : Int) (ha : validB an ad = true) (hb : validB bn bd = true) (hc : validB cn cd = true) :
    (-1 ≤ cmpS an ad bn bd ∧ cmpS an ad bn bd ≤ 1) ∧ cmpS bn bd an ad = -cmpS an ad bn bd ∧ (cmpS an ad bn bd = 0 ↔ an = bn ∧ ad = bd) ∧
    (cmpS an ad bn bd < 0 → cmpS bn bd cn cd < 0 → cmpS an ad cn cd < 0) ∧ (cmpS an ad bn bd ≤ 0 → cmpS bn bd cn cd ≤ 0 → cmpS an ad cn cd ≤ 0) := by
  obtain ⟨h1, _⟩ := validB_true ha
  obtain ⟨h2, _⟩ := validB_true hb
  obtain ⟨h3, _⟩ := validB_true hc
  rw [cmpS_sgn _ _ _ _ ha hb, cmpS_sgn _ _ _ _ hb ha, cmpS_sgn _ _ _ _ hb hc, cmpS_sgn _ _ _ _ ha hc]
  have e0 : bn * ad - an * bd = -(an * bd - bn * ad) := by omega
  have key : (an * cd - cn * ad) * bd = (an * bd - bn * ad) * cd + (bn * cd - cn * bd) * ad := by grind
  have l1 : an * bd - bn * ad < 0 → (an * bd - bn * ad) * cd < 0 := fun h => Int.mul_neg_of_neg_of_pos h (by omega)
  have l2 : bn * cd - cn * bd < 0 → (bn * cd - cn * bd) * ad < 0 := fun h => Int.mul_neg_of_neg_of_pos h (by omega)
  have l3 : an * bd - bn * ad ≤ 0 → (an * bd - bn * ad) * cd ≤ 0 := fun h => Int.mul_nonpos_of_nonpos_of_nonneg h (by omega)
  have l4 : bn * cd - cn * bd ≤ 0 → (bn * cd - cn * bd) * ad ≤ 0 := fun h => Int.mul_nonpos_of_nonpos_of_nonneg h (by omega)
  have es := sgn_mul_pos (an * cd - cn * ad) bd (by omega)
  refine ⟨sgn_bd _, by rw [e0, sgn_neg_eq], ?_, ?_, ?_⟩
  · rw [sgn_eq0]
    constructor
    · intro h
      exact valid_eq an ad bn bd ha hb (by omega)
    · rintro ⟨rfl, rfl⟩
      omega
  · intro p1 p2
    rw [sgn_lt] at p1 p2
    have := l1 p1
    have := l2 p2
    rw [← es, sgn_lt]
    omega
  · intro p1 p2
    rw [sgn_le] at p1 p2
    have := l3 p1
    have := l4 p2
    rw [← es, sgn_le]
    omega

theorem R_i64 (z d p q e : Int) (hd : 0 < d) (h : (p, q, e) = R z d) : (I64 p ∧ I64 q) ∧ (e = 0 → validB p q = true ∧ p * d = z * q) := by
  rcases R_spec z d hd with h1 | ⟨p', q', h1, hv, hm⟩
  · rw [h1] at h
    simp only [Prod.mk.injEq] at h
    obtain ⟨rfl, rfl, rfl⟩ := h
    exact ⟨⟨⟨by omega, by omega⟩, ⟨by omega, by omega⟩⟩, fun h => by omega⟩
  · rw [h1] at h
    simp only [Prod.mk.injEq] at h
    obtain ⟨rfl, rfl, rfl⟩ := h
    obtain ⟨h1, h2, h3, h4, h5⟩ := validB_true hv
    exact ⟨⟨⟨by omega, by omega⟩, ⟨by omega, by omega⟩⟩, fun _ => ⟨hv, hm⟩⟩

theorem R_err (z d p q e : Int) (hd : 0 < d) (h : (p, q, e) = R z d) : e = 0 ∨ e = 2 := by
  rcases R_spec z d hd with h1 | ⟨p', q', h1, hv, hm⟩
  · rw [h1] at h
    simp only [Prod.mk.injEq] at h
    exact .inr h.2.2
  · rw [h1] at h
    simp only [Prod.mk.injEq] at h
    exact .inl h.2.2

theorem mul_err (bn bd cn cd : Int) (hb : validB bn bd = true) (hc : validB cn cd = true) (r u f : Int) (g : (r, u, f) = mulS bn bd cn cd) : f = 0 ∨ f = 2 := by
  obtain ⟨h2, _⟩ := validB_true hb
  obtain ⟨h3, _⟩ := validB_true hc
  rw [mulS_R _ _ _ _ hb hc] at g
  exact R_err _ _ _ _ _ (Int.mul_pos (by omega) (by omega)) g

theorem order_sub (an ad bn bd : Int) (ha : validB an ad = true) (hb : validB bn bd = true) (p q e : Int) (h : (p, q, e) = subS an ad bn bd) : I64 p ∧ I64 q ∧ (e = 0 → signS p q = cmpS an ad bn bd) := by
  obtain ⟨h1, _⟩ := validB_true ha
  obtain ⟨h2, _⟩ := validB_true hb
  rw [subS_R _ _ _ _ ha hb] at h
  obtain ⟨⟨hp, hq⟩, hs⟩ := R_i64 _ _ p q e (Int.mul_pos (by omega) (by omega)) h
  refine ⟨hp, hq, fun he => ?_⟩
  obtain ⟨hv, hm⟩ := hs he
  obtain ⟨h3, _⟩ := validB_true hv
  rw [cmpS_sgn _ _ _ _ ha hb]
  unfold signS
  rw [hv]
  exact sgn_eq_of_mul _ _ _ _ (Int.mul_pos (by omega) (by omega)) (by omega) hm

theorem order_add (an ad bn bd cn cd : Int) (ha : validB an ad = true) (hb : validB bn bd = true) (hc : validB cn cd = true) (p q e r u f : Int) (h : (p, q, e) = addS an ad cn cd) (g : (r, u, f) = addS bn bd cn cd) :
    (I64 p ∧ I64 q) ∧ (I64 r ∧ I64 u) ∧ (e = 0 → f = 0 → cmpS p q r u = cmpS an ad bn bd) := by
  obtain ⟨h1, _⟩ := validB_true ha
  obtain ⟨h2, _⟩ := validB_true hb
  obtain ⟨h3, _⟩ := validB_true hc
  rw [addS_R _ _ _ _ ha hc] at h
  rw [addS_R _ _ _ _ hb hc] at g
  obtain ⟨hp, hs⟩ := R_i64 _ _ p q e (Int.mul_pos (by omega) (by omega)) h
  obtain ⟨hr, ht⟩ := R_i64 _ _ r u f (Int.mul_pos (by omega) (by omega)) g
  refine ⟨hp, hr, fun he hf => ?_⟩
  obtain ⟨hv, hm⟩ := hs he
  obtain ⟨hw, hn⟩ := ht hf
  obtain ⟨h4, _⟩ := validB_true hv
  obtain ⟨h5, _⟩ := validB_true hw
  rw [cmpS_sgn _ _ _ _ ha hb, cmpS_sgn _ _ _ _ hv hw]
  have k1 : 0 < ad * cd * (bd * cd) := Int.mul_pos (Int.mul_pos (by omega) (by omega)) (Int.mul_pos (by omega) (by omega))
  have k2 : 0 < cd * cd * (q * u) := Int.mul_pos (Int.mul_pos (by omega) (by omega)) (Int.mul_pos (by omega) (by omega))
  refine sgn_eq_of_mul _ _ _ _ k1 k2 ?_
  grind

theorem order_mul (an ad bn bd cn cd : Int) (ha : validB an ad = true) (hb : validB bn bd = true) (hc : validB cn cd = true) (p q e r u f : Int) (h : (p, q, e) = mulS an ad cn cd) (g : (r, u, f) = mulS bn bd cn cd) :
    (I64 p ∧ I64 q) ∧ (I64 r ∧ I64 u) ∧ (e = 0 → f = 0 → cmpS p q r u = cmpS an ad bn bd * signS cn cd) := by
  obtain ⟨h1, _⟩ := validB_true ha
  obtain ⟨h2, _⟩ := validB_true hb
  obtain ⟨h3, _⟩ := validB_true hc
  rw [mulS_R _ _ _ _ ha hc] at h
  rw [mulS_R _ _ _ _ hb hc] at g
  obtain ⟨hp, hs⟩ := R_i64 _ _ p q e (Int.mul_pos (by omega) (by omega)) h
  obtain ⟨hr, ht⟩ := R_i64 _ _ r u f (Int.mul_pos (by omega) (by omega)) g
  refine ⟨hp, hr, fun he hf => ?_⟩
  obtain ⟨hv, hm⟩ := hs he
  obtain ⟨hw, hn⟩ := ht hf
  obtain ⟨h4, _⟩ := validB_true hv
  obtain ⟨h5, _⟩ := validB_true hw
  rw [cmpS_sgn _ _ _ _ ha hb, cmpS_sgn _ _ _ _ hv hw]
  unfold signS
  rw [hc]
  simp only [if_true]
  rw [← sgn_mul]
  have k1 : 0 < ad * cd * (bd * cd) := Int.mul_pos (Int.mul_pos (by omega) (by omega)) (Int.mul_pos (by omega) (by omega))
  have k2 : 0 < cd * cd * (q * u) := Int.mul_pos (Int.mul_pos (by omega) (by omega)) (Int.mul_pos (by omega) (by omega))
  refine sgn_eq_of_mul _ _ _ _ k1 (Int.mul_pos (show 0 < cd by omega) (Int.mul_pos (show 0 < q by omega) (show 0 < u by omega))) ?_
  grind

set_option maxHeartbeats 1000000 in
theorem order_e0 (an ad bn bd cn cd : Int) (w : World) (ian : I64 an) (iad : I64 ad) (_ibn : I64 bn) (_ibd : I64 bd) (_icn : I64 cn) (_icd : I64 cd) (ha : Hid (validB an ad = false)) :
    Calls Try.prog 8 #[.agg #[.int .i64 an, .int .i64 ad], .agg #[.int .i64 bn, .int .i64 bd], .agg #[.int .i64 cn, .int .i64 cd]] w fun e w' => e = .returned (.bool true) ∧ Below w.heap.size w w' := by
  have hS := TrS.start w an ad bn bd cn cd
  have CA := Lib.hid (fun wx => awake_any wx)
  have CVa := Lib.hid (fun wx => rvalid_any an ad false ha.out wx ian iad)
  go_enter Try.func8, Try.ntmps8
  go_wp2_with fail
  (with_reducible refine (CA.out _).mono ?_)
  rintro e w1 ⟨rfl, hbx⟩
  replace hS := hS.step hbx
  clear hbx CA
  obtain ⟨k1, k2, k3, k4, k5, k6⟩ := hS.cells
  go_wp2_with fail
  (with_reducible refine (CVa.out _).mono ?_)
  clear k1 k2 k3 k4 k5 k6
  rintro e w2 ⟨rfl, hbx⟩
  replace hS := hS.step hbx
  clear hbx CVa
  obtain ⟨k1, k2, k3, k4, k5, k6⟩ := hS.cells
  go_wp2
  go_ret
  exact ⟨rfl, hS.1⟩

set_option maxHeartbeats 1000000 in
theorem order_e1 (an ad bn bd cn cd : Int) (w : World) (ian : I64 an) (iad : I64 ad) (ibn : I64 bn) (ibd : I64 bd) (_icn : I64 cn) (_icd : I64 cd) (ha : Hid (validB an ad = true)) (hb : Hid (validB bn bd = false)) :
    Calls Try.prog 8 #[.agg #[.int .i64 an, .int .i64 ad], .agg #[.int .i64 bn, .int .i64 bd], .agg #[.int .i64 cn, .int .i64 cd]] w fun e w' => e = .returned (.bool true) ∧ Below w.heap.size w w' := by
  have hS := TrS.start w an ad bn bd cn cd
  have CA := Lib.hid (fun wx => awake_any wx)
  have CVa := Lib.hid (fun wx => rvalid_any an ad true ha.out wx ian iad)
  have CVb := Lib.hid (fun wx => rvalid_any bn bd false hb.out wx ibn ibd)
  go_enter Try.func8, Try.ntmps8
  go_wp2_with fail
  (with_reducible refine (CA.out _).mono ?_)
  rintro e w1 ⟨rfl, hbx⟩
  replace hS := hS.step hbx
  clear hbx CA
  obtain ⟨k1, k2, k3, k4, k5, k6⟩ := hS.cells
  go_wp2_with fail
  (with_reducible refine (CVa.out _).mono ?_)
  clear k1 k2 k3 k4 k5 k6
  rintro e w2 ⟨rfl, hbx⟩
  replace hS := hS.step hbx
  clear hbx CVa
  obtain ⟨k1, k2, k3, k4, k5, k6⟩ := hS.cells
  go_wp2_with fail
  (with_reducible refine (CVb.out _).mono ?_)
  clear k1 k2 k3 k4 k5 k6
  rintro e w3 ⟨rfl, hbx⟩
  replace hS := hS.step hbx
  clear hbx CVb
  obtain ⟨k1, k2, k3, k4, k5, k6⟩ := hS.cells
  go_wp2
  go_ret
  exact ⟨rfl, hS.1⟩

set_option maxHeartbeats 1000000 in
theorem order_e2 (an ad bn bd cn cd : Int) (w : World) (ian : I64 an) (iad : I64 ad) (ibn : I64 bn) (ibd : I64 bd) (icn : I64 cn) (icd : I64 cd) (ha : Hid (validB an ad = true)) (hb : Hid (validB bn bd = true)) (hc : Hid (validB cn cd = false)) :
    Calls Try.prog 8 #[.agg #[.int .i64 an, .int .i64 ad], .agg #[.int .i64 bn, .int .i64 bd], .agg #[.int .i64 cn, .int .i64 cd]] w fun e w' => e = .returned (.bool true) ∧ Below w.heap.size w w' := by
  have hS := TrS.start w an ad bn bd cn cd
  have CA := Lib.hid (fun wx => awake_any wx)
  have CVa := Lib.hid (fun wx => rvalid_any an ad true ha.out wx ian iad)
  have CVb := Lib.hid (fun wx => rvalid_any bn bd true hb.out wx ibn ibd)
  have CVc := Lib.hid (fun wx => rvalid_any cn cd false hc.out wx icn icd)
  go_enter Try.func8, Try.ntmps8
  go_wp2_with fail
  (with_reducible refine (CA.out _).mono ?_)
  rintro e w1 ⟨rfl, hbx⟩
  replace hS := hS.step hbx
  clear hbx CA
  obtain ⟨k1, k2, k3, k4, k5, k6⟩ := hS.cells
  go_wp2_with fail
  (with_reducible refine (CVa.out _).mono ?_)
  clear k1 k2 k3 k4 k5 k6
  rintro e w2 ⟨rfl, hbx⟩
  replace hS := hS.step hbx
  clear hbx CVa
  obtain ⟨k1, k2, k3, k4, k5, k6⟩ := hS.cells
  go_wp2_with fail
  (with_reducible refine (CVb.out _).mono ?_)
  clear k1 k2 k3 k4 k5 k6
  rintro e w3 ⟨rfl, hbx⟩
  replace hS := hS.step hbx
  clear hbx CVb
  obtain ⟨k1, k2, k3, k4, k5, k6⟩ := hS.cells
  go_wp2_with fail
  (with_reducible refine (CVc.out _).mono ?_)
  clear k1 k2 k3 k4 k5 k6
  rintro e w4 ⟨rfl, hbx⟩
  replace hS := hS.step hbx
  clear hbx CVc
  obtain ⟨k1, k2, k3, k4, k5, k6⟩ := hS.cells
  go_wp2
  go_ret
  exact ⟨rfl, hS.1⟩

set_option maxRecDepth 100000 in
set_option maxHeartbeats 4000000 in
theorem order_ok (an ad bn bd cn cd : Int) (w : World) (ian : I64 an) (iad : I64 ad) (ibn : I64 bn) (ibd : I64 bd) (icn : I64 cn) (icd : I64 cd) (ha : Hid (validB an ad = true)) (hb : Hid (validB bn bd = true)) (hc : Hid (validB cn cd = true)) :
    Calls Try.prog 8 #[.agg #[.int .i64 an, .int .i64 ad], .agg #[.int .i64 bn, .int .i64 bd], .agg #[.int .i64 cn, .int .i64 cd]] w fun e w' => e = .returned (.bool true) ∧ Below w.heap.size w w' := by
  obtain ⟨x, hx⟩ : ∃ x, x = cmpS an ad bn bd := ⟨_, rfl⟩
  obtain ⟨y, hy⟩ : ∃ y, y = cmpS bn bd cn cd := ⟨_, rfl⟩
  obtain ⟨z, hz⟩ : ∃ z, z = cmpS an ad cn cd := ⟨_, rfl⟩
  have CX := Lib.hid (fun wx => cmp_ratio an ad bn bd wx ian iad ibn ibd)
  have CX2 := Lib.hid (fun wx => cmp_ratio bn bd an ad wx ibn ibd ian iad)
  have CY := Lib.hid (fun wx => cmp_ratio bn bd cn cd wx ibn ibd icn icd)
  have CZ := Lib.hid (fun wx => cmp_ratio an ad cn cd wx ian iad icn icd)
  obtain ⟨o1, o2, o3, o4, o5⟩ := order_plain an ad bn bd cn cd ha.out hb.out hc.out
  rw [← hx] at CX o1 o2 o3 o4 o5
  rw [← hy] at CY o4 o5
  rw [← hz] at CZ o4 o5
  rw [o2] at CX2
  have HX := Lib.hid hx
  clear hx hy hz o2
  have O3 := Lib.hid o3
  have O4 := Lib.hid o4
  have O5 := Lib.hid o5
  clear o3 o4 o5
  obtain ⟨xl, xh⟩ := o1
  have hS := TrS.start w an ad bn bd cn cd
  have CA := Lib.hid (fun wx => awake_any wx)
  have CVa := Lib.hid (fun wx => rvalid_any an ad true ha.out wx ian iad)
  have CVb := Lib.hid (fun wx => rvalid_any bn bd true hb.out wx ibn ibd)
  have CVc := Lib.hid (fun wx => rvalid_any cn cd true hc.out wx icn icd)
  go_enter Try.func8, Try.ntmps8
  go_wp2_with fail
  (with_reducible refine (CA.out _).mono ?_)
  rintro e w1 ⟨rfl, hbx⟩
  replace hS := hS.step hbx
  clear hbx CA
  obtain ⟨k1, k2, k3, k4, k5, k6⟩ := hS.cells
  go_wp2_with fail
  (with_reducible refine (CVa.out _).mono ?_)
  clear k1 k2 k3 k4 k5 k6
  rintro e w2 ⟨rfl, hbx⟩
  replace hS := hS.step hbx
  clear hbx CVa
  obtain ⟨k1, k2, k3, k4, k5, k6⟩ := hS.cells
  go_wp2_with fail
  (with_reducible refine (CVb.out _).mono ?_)
  clear k1 k2 k3 k4 k5 k6
  rintro e w3 ⟨rfl, hbx⟩
  replace hS := hS.step hbx
  clear hbx CVb
  obtain ⟨k1, k2, k3, k4, k5, k6⟩ := hS.cells
  go_wp2_with fail
  (with_reducible refine (CVc.out _).mono ?_)
  clear k1 k2 k3 k4 k5 k6
  rintro e w4 ⟨rfl, hbx⟩
  replace hS := hS.step hbx
  clear hbx CVc
  obtain ⟨k1, k2, k3, k4, k5, k6⟩ := hS.cells
  have hS' := hS.drew
  go_wp2
  go_region_held3 (fun w' => TrS w an ad bn bd cn cd w' ∧ w'.cell? ⟨w.heap.size, 0, none⟩ = some (.int .i64 an) ∧ w'.cell? ⟨w.heap.size, 1, none⟩ = some (.int .i64 ad) ∧ w'.cell? ⟨w.heap.size + 1, 0, none⟩ = some (.int .i64 bn) ∧ w'.cell? ⟨w.heap.size + 1, 1, none⟩ = some (.int .i64 bd) ∧ w'.cell? ⟨w.heap.size + 1 + 1, 0, none⟩ = some (.int .i64 cn) ∧ w'.cell? ⟨w.heap.size + 1 + 1, 1, none⟩ = some (.int .i64 cd)) (first | exact TrS.all (by assumption))
    (first
      | (go_at_call 25; (with_reducible refine (CX.out _).mono ?_); rintro e v1 ⟨rfl, hb1⟩; have hS1 := hS'.step hb1)
      | (go_at_call 25; (with_reducible refine (CY.out _).mono ?_); rintro e v2 ⟨rfl, hb2⟩; have hS2 := hS1.step hb2)
      | (go_at_call 25; (with_reducible refine (CZ.out _).mono ?_); rintro e v3 ⟨rfl, hb3⟩; have hS3 := hS2.step hb3))
  clear k1 k2 k3 k4 k5 k6 hS hS' hS1 hS2 hb1 hb2 hb3 CX CY CZ
  go_upto_region 6 with fail
  go_cut [81] (fun s81 wx => s81 = .bool false ∧ TrS w an ad bn bd cn cd wx)
  case first =>
    obtain ⟨k1, k2, k3, k4, k5, k6⟩ := hS3.cells
    go_wp2_with fail
    (with_reducible refine (CX2.out _).mono ?_)
    clear k1 k2 k3 k4 k5 k6
    rintro e u1 ⟨rfl, hbx⟩
    replace hS3 := hS3.step hbx
    obtain ⟨k1, k2, k3, k4, k5, k6⟩ := hS3.cells
    rcases (show x = 1 ∨ x = 0 ∨ x = -1 from by omega) with hx1 | hx1 | hx1
    · have ne : ¬ (an = bn ∧ ad = bd) := fun h => by have := O3.out.2 h; omega
      subst hx1
      clear O3 O4 O5
      rcases (show ¬ an = bn ∨ (an = bn ∧ ¬ ad = bd) from by omega) with ne1 | ⟨ne0, ne1⟩ <;> (try subst ne0) <;> clear ne
      all_goals go_wp2_with fail
      all_goals (go_meet; exact ⟨rfl, hS3⟩)
    · obtain ⟨e1, e2⟩ := O3.out.1 hx1
      have z0 := O5.out (by omega)
      subst hx1 e1 e2
      clear O3 O4 O5
      by_cases hy1 : y ≤ 0
      · have d1 : decide (y ≤ 0) = true := by simpa using hy1
        have d2 : decide (0 < z) = false := by have := z0 hy1; simp; omega
        clear z0
        go_wp2_with fail
        go_meet
        exact ⟨rfl, hS3⟩
      · have d1 : decide (y ≤ 0) = false := by simp; omega
        clear z0
        go_wp2_with fail
        go_meet
        exact ⟨rfl, hS3⟩
    · have ne : ¬ (an = bn ∧ ad = bd) := fun h => by have := O3.out.2 h; omega
      have y0 := O4.out (by omega)
      have z0 := O5.out (by omega)
      subst hx1
      clear O3 O4 O5
      rw [show (-(-1) : Int) = 1 from rfl]
      by_cases hy1 : y < 0
      · have d1 : decide (y ≤ 0) = true := by simp; omega
        have d2 : decide (0 < z) = false := by have := y0 hy1; simp; omega
        have d3 : decide (y < 0) = true := by simpa using hy1
        have d4 : decide (0 ≤ z) = false := by have := y0 hy1; simp; omega
        clear z0 y0
        rcases (show ¬ an = bn ∨ (an = bn ∧ ¬ ad = bd) from by omega) with ne1 | ⟨ne0, ne1⟩ <;> (try subst ne0) <;> clear ne
        all_goals go_wp2_with fail
        all_goals (go_meet; exact ⟨rfl, hS3⟩)
      · have d3 : decide (y < 0) = false := by simp; omega
        by_cases hy2 : y ≤ 0
        · have d1 : decide (y ≤ 0) = true := by simpa using hy2
          have d2 : decide (0 < z) = false := by have := z0 hy2; simp; omega
          clear z0 y0
          rcases (show ¬ an = bn ∨ (an = bn ∧ ¬ ad = bd) from by omega) with ne1 | ⟨ne0, ne1⟩ <;> (try subst ne0) <;> clear ne
          all_goals go_wp2_with fail
          all_goals (go_meet; exact ⟨rfl, hS3⟩)
        · have d1 : decide (y ≤ 0) = false := by simp; omega
          clear z0 y0
          rcases (show ¬ an = bn ∨ (an = bn ∧ ¬ ad = bd) from by omega) with ne1 | ⟨ne0, ne1⟩ <;> (try subst ne0) <;> clear ne
          all_goals go_wp2_with fail
          all_goals (go_meet; exact ⟨rfl, hS3⟩)
  case rest =>
    obtain ⟨rfl, hS⟩ := hcut
    clear O3 O4 O5 CX2
    have CS := Lib.hid (fun wx => sub_ratio an ad bn bd wx ian iad ibn ibd)
    obtain ⟨k1, k2, k3, k4, k5, k6⟩ := hS.cells
    go_wp2_with fail
    (with_reducible refine (CS.out _).mono ?_)
    clear k1 k2 k3 k4 k5 k6 CS
    rintro e u1 ⟨he, hbx⟩
    obtain ⟨p1, p2, p3, hp, rfl⟩ := RatE_cases he
    obtain ⟨pi, pj, psg⟩ := order_sub an ad bn bd ha.out hb.out p1 p2 p3 hp
    rw [← HX.out] at psg
    have PS := Lib.hid psg
    clear hp psg he
    replace hS := (hS.step hbx).al (Obj.cells #[.int .i64 p1, .int .i64 p2] 25)
    have x1 := Box.made u1 25 [.int .i64 p1, .int .i64 p2]
    clear hbx
    go_upto_region 9 with fail
    go_cut [95] (fun s95 wx => s95 = .bool false ∧ TrS w an ad bn bd cn cd wx)
    case first =>
      have l1 := x1.cell 0 _ rfl
      have l2 := x1.cell 1 _ rfl
      by_cases hp3 : p3 = 0
      · have CG := Lib.hid (fun wx => Sign_any p1 p2 wx pi pj)
        rw [PS.out hp3] at CG
        subst hp3
        clear PS
        go_wp2_with fail
        (with_reducible refine (CG.out _).mono ?_)
        clear l1 l2
        rintro e u2 ⟨rfl, hbx⟩
        replace hS := hS.step hbx
        go_wp2_with fail
        go_meet
        exact ⟨rfl, hS⟩
      · have hp4 : (p3 == 0) = false := by simpa using hp3
        clear PS
        go_wp2_with fail
        go_meet
        exact ⟨rfl, hS⟩
    case rest =>
      clear hS x1 PS
      obtain ⟨rfl, hS⟩ := hcut
      have CA1 := Lib.hid (fun wx => add_ratio an ad cn cd wx ian iad icn icd)
      have CA2 := Lib.hid (fun wx => add_ratio bn bd cn cd wx ibn ibd icn icd)
      obtain ⟨k1, k2, k3, k4, k5, k6⟩ := hS.cells
      go_wp2_with fail
      (with_reducible refine (CA1.out _).mono ?_)
      clear k1 k2 k3 k4 k5 k6 CA1
      rintro e u1 ⟨he, hbx⟩
      obtain ⟨q1, q2, q3, hq, rfl⟩ := RatE_cases he
      replace hS := (hS.step hbx).al (Obj.cells #[.int .i64 q1, .int .i64 q2] 25)
      have x1 := Box.made u1 25 [.int .i64 q1, .int .i64 q2]
      clear hbx he
      obtain ⟨k1, k2, k3, k4, k5, k6⟩ := hS.cells
      go_wp2_with fail
      (with_reducible refine (CA2.out _).mono ?_)
      clear k1 k2 k3 k4 k5 k6 CA2
      rintro e u2 ⟨he, hbx⟩
      obtain ⟨r1, r2, r3, hr, rfl⟩ := RatE_cases he
      replace hS := (hS.step hbx).al (Obj.cells #[.int .i64 r1, .int .i64 r2] 25)
      replace x1 := (x1.below hbx).alloc (Obj.cells #[.int .i64 r1, .int .i64 r2] 25)
      have x2 := Box.made u2 25 [.int .i64 r1, .int .i64 r2]
      clear hbx he
      obtain ⟨⟨qi, qj⟩, ⟨ri, rj⟩, qs⟩ := order_add an ad bn bd cn cd ha.out hb.out hc.out q1 q2 q3 r1 r2 r3 hq hr
      rw [← HX.out] at qs
      have QS := Lib.hid qs
      clear hq hr qs
      go_upto_region 13 with fail
      go_cut [120] (fun s120 wx => s120 = .bool false ∧ TrS w an ad bn bd cn cd wx)
      case first =>
        have l1 := x1.cell 0 _ rfl
        have l2 := x1.cell 1 _ rfl
        have l3 := x2.cell 0 _ rfl
        have l4 := x2.cell 1 _ rfl
        by_cases hq3 : q3 = 0
        · by_cases hr3 : r3 = 0
          · have CG := Lib.hid (fun wx => cmp_ratio q1 q2 r1 r2 wx qi qj ri rj)
            rw [QS.out hq3 hr3] at CG
            subst hq3 hr3
            clear QS
            go_wp2_with fail
            (with_reducible refine (CG.out _).mono ?_)
            clear l1 l2 l3 l4
            rintro e u3 ⟨rfl, hbx⟩
            replace hS := hS.step hbx
            go_wp2_with fail
            go_meet
            exact ⟨rfl, hS⟩
          · have hr4 : (r3 == 0) = false := by simpa using hr3
            subst hq3
            clear QS
            go_wp2_with fail
            go_meet
            exact ⟨rfl, hS⟩
        · have hq4 : (q3 == 0) = false := by simpa using hq3
          clear QS
          go_wp2_with fail
          go_meet
          exact ⟨rfl, hS⟩
      case rest =>
        clear hS x1 x2 QS
        obtain ⟨rfl, hS⟩ := hcut
        have CM1 := Lib.hid (fun wx => mul_ratio an ad cn cd wx ian iad icn icd)
        have CM2 := Lib.hid (fun wx => mul_ratio bn bd cn cd wx ibn ibd icn icd)
        obtain ⟨k1, k2, k3, k4, k5, k6⟩ := hS.cells
        go_wp2_with fail
        (with_reducible refine (CM1.out _).mono ?_)
        clear k1 k2 k3 k4 k5 k6 CM1
        rintro e u1 ⟨he, hbx⟩
        obtain ⟨q1, q2, q3, hq, rfl⟩ := RatE_cases he
        replace hS := (hS.step hbx).al (Obj.cells #[.int .i64 q1, .int .i64 q2] 25)
        have x1 := Box.made u1 25 [.int .i64 q1, .int .i64 q2]
        clear hbx he
        obtain ⟨k1, k2, k3, k4, k5, k6⟩ := hS.cells
        go_wp2_with fail
        (with_reducible refine (CM2.out _).mono ?_)
        clear k1 k2 k3 k4 k5 k6 CM2
        rintro e u2 ⟨he, hbx⟩
        obtain ⟨r1, r2, r3, hr, rfl⟩ := RatE_cases he
        replace hS := (hS.step hbx).al (Obj.cells #[.int .i64 r1, .int .i64 r2] 25)
        replace x1 := (x1.below hbx).alloc (Obj.cells #[.int .i64 r1, .int .i64 r2] 25)
        have x2 := Box.made u2 25 [.int .i64 r1, .int .i64 r2]
        clear hbx he
        obtain ⟨⟨qi, qj⟩, ⟨ri, rj⟩, qs⟩ := order_mul an ad bn bd cn cd ha.out hb.out hc.out q1 q2 q3 r1 r2 r3 hq hr
        have HR3 := Lib.hid (mul_err bn bd cn cd hb.out hc.out r1 r2 r3 hr)
        have HQ3 := Lib.hid (mul_err an ad cn cd ha.out hc.out q1 q2 q3 hq)
        rw [← HX.out] at qs
        have CSg := Lib.hid (fun wx => Sign_any cn cd wx icn icd)
        obtain ⟨sc, hsc⟩ : ∃ sc, sc = signS cn cd := ⟨_, rfl⟩
        have scb : -1 ≤ sc ∧ sc ≤ 1 := by rw [hsc]; unfold signS; rw [hc.out]; exact sgn_bd _
        rw [← hsc] at CSg qs
        clear hsc
        have hpb : -1 ≤ x * sc ∧ x * sc ≤ 1 := by
          obtain ⟨s1, s2⟩ := scb
          rcases (show x = 1 ∨ x = 0 ∨ x = -1 from by omega) with h | h | h <;> subst h <;> omega
        obtain ⟨xs, hxs⟩ : ∃ xs, xs = x * sc := ⟨_, rfl⟩
        rw [← hxs] at qs hpb
        have hmul : IntKind.i64.wrap (x * sc) = xs := by rw [← hxs]; exact IntWalk.i64_in _ (by omega)
        have QS := Lib.hid qs
        clear hq hr qs hxs scb hpb
        have l1 := x1.cell 0 _ rfl
        have l2 := x1.cell 1 _ rfl
        have l3 := x2.cell 0 _ rfl
        have l4 := x2.cell 1 _ rfl
        by_cases hq3 : q3 = 0
        · by_cases hr3 : r3 = 0
          · have CG := Lib.hid (fun wx => cmp_ratio q1 q2 r1 r2 wx qi qj ri rj)
            rw [QS.out hq3 hr3] at CG
            subst hq3 hr3
            clear QS
            have hO := OrS.mk hS x1 x2
            have hO' := hO.drew
            clear l1 l2 l3 l4 x1 x2 hS
            go_wp2_with fail
            go_region_held3 (fun w' => OrS w an ad bn bd cn cd q1 q2 r1 r2 u1.heap.size u2.heap.size w' ∧ w'.cell? ⟨w.heap.size + 1 + 1, 0, none⟩ = some (.int .i64 cn) ∧ w'.cell? ⟨w.heap.size + 1 + 1, 1, none⟩ = some (.int .i64 cd) ∧ w'.cell? ⟨u1.heap.size, 0, none⟩ = some (.int .i64 q1) ∧ w'.cell? ⟨u1.heap.size, 1, none⟩ = some (.int .i64 q2) ∧ w'.cell? ⟨u2.heap.size, 0, none⟩ = some (.int .i64 r1) ∧ w'.cell? ⟨u2.heap.size, 1, none⟩ = some (.int .i64 r2)) (first | exact OrS.all (by assumption))
              (first
                | (go_at_call 25; (with_reducible refine (CG.out _).mono ?_); rintro e v1 ⟨rfl, hb1⟩; have hO1 := hO'.step hb1)
                | (go_at_call 32; (with_reducible refine (CSg.out _).mono ?_); rintro e v2 ⟨rfl, hb2⟩; have hO2 := hO1.step hb2))
            go_wp2
            go_ret
            exact ⟨by simp, hO2.1.1⟩
          · have hr4 : r3 = 2 := HR3.out.resolve_left hr3
            clear HR3 hr3
            subst hq3 hr4
            have hO := OrS.mk hS x1 x2
            have hO' := hO.drew
            clear QS l1 l2 l3 l4 x1 x2 hS
            go_wp2_with fail
            go_quiet (fail)
            go_wp2
            go_ret
            exact ⟨rfl, by repeat (first | exact hO.1.1 | refine below_drewN ?_ _)⟩
        · have hq4 : q3 = 2 := HQ3.out.resolve_left hq3
          clear HQ3 HR3 hq3
          subst hq4
          have hO := OrS.mk hS x1 x2
          clear QS l1 l2 l3 l4 x1 x2 hS
          go_wp2_with fail
          go_quiet (fail)
          go_wp2
          go_ret
          exact ⟨rfl, by repeat (first | exact hO.1.1 | refine below_drewN ?_ _)⟩

theorem order_any (an ad bn bd cn cd : Int) (w : World) (ian : I64 an) (iad : I64 ad) (ibn : I64 bn) (ibd : I64 bd) (icn : I64 cn) (icd : I64 cd) :
    Calls Try.prog 8 #[.agg #[.int .i64 an, .int .i64 ad], .agg #[.int .i64 bn, .int .i64 bd], .agg #[.int .i64 cn, .int .i64 cd]] w fun e w' => e = .returned (.bool true) ∧ Below w.heap.size w w' := by
  rcases Bool.eq_false_or_eq_true (validB an ad) with ha | ha
  · rcases Bool.eq_false_or_eq_true (validB bn bd) with hb | hb
    · rcases Bool.eq_false_or_eq_true (validB cn cd) with hc | hc
      · exact order_ok an ad bn bd cn cd w ian iad ibn ibd icn icd ha hb hc
      · exact order_e2 an ad bn bd cn cd w ian iad ibn ibd icn icd ha hb hc
    · exact order_e1 an ad bn bd cn cd w ian iad ibn ibd icn icd ha hb
  · exact order_e0 an ad bn bd cn cd w ian iad ibn ibd icn icd ha

end Go.Proofs.Ytpjjbdpkhmeldaa
