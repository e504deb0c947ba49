/- contracts of ratio's Of, Int, Add, Sub -/
import Derived.Test.YtpjjbdpkhmeldaaDoorB1
namespace Go.Proofs.YtpjjbdpkhmeldaaDoor
open Go.RowKit

theorem natAbs_len (n : Int) (h : I64 n) : (digs W32 n.natAbs).length ≤ 2 := digs_length_le W32 W32_ge _ 2 (by obtain ⟨h1, h2⟩ := h; unfold W32; omega)
theorem nat_len (n : Nat) (h : n < 18446744073709551616) : (digs W32 n).length ≤ 2 := digs_length_le W32 W32_ge _ 2 (by unfold W32; omega)

def ofS (n d : Int) : Int × Int × Int := if d = 0 then (0, 0, 1) else ratioS ((decide (n < 0)) != (decide (d < 0))) n.natAbs d.natAbs

theorem ratio_box (_w : World) : ∀ (i : Nat) (m : Int), [Value.int .i64 0, Value.int .i64 0][i]? ≠ some (.int .u32 m) := by
  intro i m
  rcases i with _ | _ | i <;> simp

set_option maxHeartbeats 1000000 in
theorem Of_any (n d : Int) (w : World) (hn : I64 n) (hd : I64 d) :
    Calls Tryd.prog 10 #[.int .i64 n, .int .i64 d] w fun e w' => e = RatE (ofS n d) ∧ Below w.heap.size w w' := by
  have hx := Box.made w 23 [.int .i64 0, .int .i64 0]
  have hbl : Below w.heap.size w (w.alloc (Obj.cells #[.int .i64 0, .int .i64 0] 23)) := (Below.refl _ _).alloc (Nat.le_refl _) _
  have hl1 := natAbs_len n hn
  have hl2 := natAbs_len d hd
  obtain ⟨hn1, hn2⟩ := hn
  obtain ⟨hd1, hd2⟩ := hd
  by_cases h0 : d = 0
  · have e1 : ofS n d = (0, 0, 1) := if_pos h0
    have HE := Lib.hid e1
    clear e1
    subst h0
    go_enter Tryd.func10, Tryd.ntmps10
    go_wp2
    refine bodyPost_ret (v := .tuple #[.agg #[.int .i64 0, .int .i64 0], .int .i64 1]) (by simp [results, Tryd.results10, go_sem]) rfl ⟨by rw [HE.out]; rfl, ?_⟩
    exact (Below.refl _ _).alloc (Nat.le_refl _) _
  · have e1 : ofS n d = ratioS ((decide (n < 0)) != (decide (d < 0))) n.natAbs d.natAbs := if_neg h0
    have HE := Lib.hid e1
    have hz : (d == 0) = false := by simpa using h0
    have hp : 0 < d.natAbs := by omega
    clear e1
    go_enter Tryd.func10, Tryd.ntmps10
    go_wp2_with fail
    refine (magnitude_any n _ ⟨hn1, hn2⟩).mono ?_
    rintro e w1 ⟨rfl, rfl⟩
    go_wp2_with fail
    refine (word_any n.natAbs _ (by omega)).mono ?_
    rintro e w2 ⟨v2, rfl, hv2, hb2⟩
    obtain ⟨q2, d2, e2⟩ := hv2.shape
    subst e2
    go_wp2_with fail
    refine (magnitude_any d _ ⟨hd1, hd2⟩).mono ?_
    rintro e w1 ⟨rfl, rfl⟩
    go_wp2_with fail
    refine (word_any d.natAbs _ (by omega)).mono ?_
    rintro e w3 ⟨v3, rfl, hv3, hb3⟩
    obtain ⟨q3, d3, e3⟩ := hv3.shape
    subst e3
    have hv2' := hv2.below hb3
    have hb23 := hb2.trans (hb3.mono hb2.size)
    have hx3 := hx.below hb23
    have hbl3 := hbl.trans (hb23.mono hbl.size)
    have RT := Lib.hid (ratio_any (.agg #[.bool ((decide (n < 0)) != (decide (d < 0))), .slice q2 (digs W32 n.natAbs).length d2, .slice q3 (digs W32 d.natAbs).length d3]) ((decide (n < 0)) != (decide (d < 0))) n.natAbs d.natAbs w3 ⟨_, _, rfl, hv2', hv3⟩ (by omega) (by omega) hp)
    clear hx hbl hv2 hv3 hv2' hb2 hb3 hb23
    go_wp2_with fail
    refine RT.out.mono ?_
    rintro e w4 ⟨he, hb4⟩
    rw [← HE.out] at he
    obtain ⟨x, hx⟩ : ∃ x, x = ofS n d := ⟨_, rfl⟩
    rw [← hx] at he
    have HX := Lib.hid hx
    clear hx RT
    obtain ⟨x1, x2, x3⟩ := x
    unfold RatE at he
    subst he
    have hx4 := hx3.below hb4
    have hbl4 := hbl3.trans (hb4.mono hbl3.size)
    have k0 := hx4.cell 0 _ rfl; have k1 := hx4.cell 1 _ rfl; have k2 := hx4.free 0; have k3 := hx4.free 1
    clear hx3 hbl3 hb4
    go_wp2
    refine bodyPost_ret (v := .tuple #[.agg #[.int .i64 x1, .int .i64 x2], .int .i64 x3]) (by simp [results, Tryd.results10, go_sem, k0, k1]) rfl ⟨by rw [← HX.out]; rfl, (hbl4.setCell (by simp) _).setCell (by simp) _⟩

def intS (n : Int) : Int × Int × Int := ofS n 1

/-- two ratios' boxes and a result -/
def BiS (w : World) (an ad bn bd : Int) (w' : World) : Prop :=
  Below w.heap.size w w' ∧ Box w' w.heap.size 23 [.int .i64 an, .int .i64 ad] ∧ Box w' (w.heap.size + 1) 23 [.int .i64 bn, .int .i64 bd] ∧ Box w' (w.heap.size + 2) 23 [.int .i64 0, .int .i64 0]
theorem BiS.step {w : World} {an ad bn bd : Int} {w1 w2 : World} (hb : Below w1.heap.size w1 w2) (h : BiS w an ad bn bd w1) : BiS w an ad bn bd w2 := by
  obtain ⟨h1, h2, h3, h4⟩ := h
  exact ⟨h1.trans (hb.mono h1.size), h2.below hb, h3.below hb, h4.below hb⟩
theorem BiS.drew {w : World} {an ad bn bd : Int} {w1 : World} (h : BiS w an ad bn bd w1) : BiS w an ad bn bd w1.drew := ⟨h.1.drew, h.2.1, h.2.2.1, h.2.2.2⟩
theorem BiS.start (w : World) (an ad bn bd : Int) : BiS w an ad bn bd (((w.alloc (Obj.cells #[.int .i64 an, .int .i64 ad] 23)).alloc (Obj.cells #[.int .i64 bn, .int .i64 bd] 23)).alloc (Obj.cells #[.int .i64 0, .int .i64 0] 23)) := by
  have e1 := Box.made w 23 [.int .i64 an, .int .i64 ad]
  have e2 := Box.made (w.alloc (Obj.cells #[.int .i64 an, .int .i64 ad] 23)) 23 [.int .i64 bn, .int .i64 bd]
  have e3 := Box.made ((w.alloc (Obj.cells #[.int .i64 an, .int .i64 ad] 23)).alloc (Obj.cells #[.int .i64 bn, .int .i64 bd] 23)) 23 [.int .i64 0, .int .i64 0]
  rw [alloc_size] at e2
  rw [alloc_size, alloc_size] at e3
  exact ⟨(((Below.refl _ _).alloc (Nat.le_refl _) _).alloc (by simp) _).alloc (by simp; omega) _, (e1.alloc _).alloc _, e2.alloc _, e3⟩
theorem BiS.cells {w : World} {an ad bn bd : Int} {w' : World} (h : BiS w an ad bn bd w') :
    w'.cell? ⟨w.heap.size, 0, none⟩ = some (.int .i64 an) ∧ w'.cell? ⟨w.heap.size, 1, none⟩ = some (.int .i64 ad) ∧ w'.cell? ⟨w.heap.size + 1, 0, none⟩ = some (.int .i64 bn) ∧ w'.cell? ⟨w.heap.size + 1, 1, none⟩ = some (.int .i64 bd) ∧
    w'.cell? ⟨w.heap.size + 1 + 1, 0, none⟩ = some (.int .i64 0) ∧ w'.cell? ⟨w.heap.size + 1 + 1, 1, none⟩ = some (.int .i64 0) ∧ w'.frozen? ⟨w.heap.size + 1 + 1, 0, none⟩ = false ∧ w'.frozen? ⟨w.heap.size + 1 + 1, 1, none⟩ = false :=
  ⟨h.2.1.cell 0 _ rfl, h.2.1.cell 1 _ rfl, h.2.2.1.cell 0 _ rfl, h.2.2.1.cell 1 _ rfl, h.2.2.2.cell 0 _ rfl, h.2.2.2.cell 1 _ rfl, h.2.2.2.free 0, h.2.2.2.free 1⟩
/-- the same behind a store into the result -/
def BiT (w : World) (an ad bn bd : Int) (w' : World) : Prop :=
  Below w.heap.size w w' ∧ Box w' w.heap.size 23 [.int .i64 an, .int .i64 ad] ∧ Box w' (w.heap.size + 1) 23 [.int .i64 bn, .int .i64 bd] ∧ w.heap.size + 2 < w'.heap.size
theorem BiS.t {w : World} {an ad bn bd : Int} {w' : World} (h : BiS w an ad bn bd w') : BiT w an ad bn bd w' := ⟨h.1, h.2.1, h.2.2.1, h.2.2.2.lt⟩
theorem BiT.st {w : World} {an ad bn bd : Int} {w' : World} (h : BiT w an ad bn bd w') (b i : Nat) (hb : w.heap.size + 2 ≤ b) (v : Value) : BiT w an ad bn bd (w'.setCell ⟨b, i, none⟩ v) :=
  ⟨h.1.setCell (by simp; omega) _, h.2.1.other (by omega) _ _, h.2.2.1.other (by omega) _ _, by simpa [World.setCell] using h.2.2.2⟩
theorem BiT.al {w : World} {an ad bn bd : Int} {w' : World} (h : BiT w an ad bn bd w') (o : Obj) : BiT w an ad bn bd (w'.alloc o) :=
  ⟨h.1.alloc h.1.size _, h.2.1.alloc _, h.2.2.1.alloc _, by rw [alloc_size]; exact Nat.lt_succ_of_lt h.2.2.2⟩
theorem BiT.all {w : World} {an ad bn bd : Int} {w' : World} (h : BiT w an ad bn bd w') :
    BiT w an ad bn bd w' ∧ w'.cell? ⟨w.heap.size, 0, none⟩ = some (.int .i64 an) ∧ w'.cell? ⟨w.heap.size, 1, none⟩ = some (.int .i64 ad) ∧ w'.cell? ⟨w.heap.size + 1, 0, none⟩ = some (.int .i64 bn) ∧ w'.cell? ⟨w.heap.size + 1, 1, none⟩ = some (.int .i64 bd) :=
  ⟨h, h.2.1.cell 0 _ rfl, h.2.1.cell 1 _ rfl, h.2.2.1.cell 0 _ rfl, h.2.2.1.cell 1 _ rfl⟩

def addS (an ad bn bd : Int) : Int × Int × Int :=
  if validB an ad && validB bn bd then ratioS (plusS (decide (an < 0)) an.natAbs ad.natAbs (decide (bn < 0)) bn.natAbs bd.natAbs).1 (plusS (decide (an < 0)) an.natAbs ad.natAbs (decide (bn < 0)) bn.natAbs bd.natAbs).2.1 (plusS (decide (an < 0)) an.natAbs ad.natAbs (decide (bn < 0)) bn.natAbs bd.natAbs).2.2 else (0, 0, 1)

theorem plusS_len (g1 : Bool) (m1 n1 : Nat) (g2 : Bool) (m2 n2 : Nat) (K : Nat) (h1 : (digs W32 m1).length ≤ K) (h2 : (digs W32 n1).length ≤ K) (h3 : (digs W32 m2).length ≤ K) (h4 : (digs W32 n2).length ≤ K) :
    (digs W32 (plusS g1 m1 n1 g2 m2 n2).2.1).length ≤ 2 * K + 1 ∧ (digs W32 (plusS g1 m1 n1 g2 m2 n2).2.2).length ≤ 2 * K := by
  have a1 := digs_length_mul W32 W32_ge m1 n2
  have a2 := digs_length_mul W32 W32_ge m2 n1
  have a3 := digs_length_mul W32 W32_ge n1 n2
  have a4 := digs_length_add W32 W32_ge (m1 * n2) (m2 * n1)
  have a5 := digs_length_mono W32 W32_ge (m1 * n2 - m2 * n1) (m1 * n2) (Nat.sub_le _ _)
  have a6 := digs_length_mono W32 W32_ge (m2 * n1 - m1 * n2) (m2 * n1) (Nat.sub_le _ _)
  unfold plusS
  split
  · exact ⟨by simp only []; omega, by simp only []; omega⟩
  · split
    · exact ⟨by simp only []; omega, by simp only []; omega⟩
    · exact ⟨by simp only []; omega, by simp only []; omega⟩

theorem plusS_den (g1 : Bool) (m1 n1 : Nat) (g2 : Bool) (m2 n2 : Nat) : (plusS g1 m1 n1 g2 m2 n2).2.2 = n1 * n2 := by
  unfold plusS; split
  · rfl
  · split <;> rfl

theorem RatE_cases {e : Ending} {x : Int × Int × Int} (h : e = RatE x) : ∃ x1 x2 x3, (x1, x2, x3) = x ∧ e = .returned (.tuple #[.agg #[.int .i64 x1, .int .i64 x2], .int .i64 x3]) := by
  obtain ⟨x1, x2, x3⟩ := x
  exact ⟨x1, x2, x3, rfl, h⟩

end Go.Proofs.YtpjjbdpkhmeldaaDoor
