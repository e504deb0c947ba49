/- contracts of the reference's Mul, Div, Cmp -/
import Derived.Test.YtpjjbdpkhmeldaaR7
namespace Go.Proofs.Ytpjjbdpkhmeldaa
open Go.RowKit

/-- a fraction of known cells in a box of the call's own -/
def FrR (w w' : World) (v : Value) (neg : Bool) (m n : Nat) (full : Prop) : Prop :=
  ∃ b, v = .pointer (some ⟨b, 0, none⟩) ∧ w.heap.size + 2 < b ∧ HasR w' b 54 3 ∧ (full → ∃ x1 x2, Box w' b 54 [.bool neg, x1, x2] ∧ NatV w' .i64 R15 x1 m ∧ NatV w' .i64 R15 x2 n)

/-- the region's invariant -/
def MuG (p q r s : Nat) (w : World) (an ad bn bd : Int) (D : Nat → Bool) (V : Nat → Value) (w' : World) : Prop :=
  BiS w an ad bn bd w' ∧ (D 0 = true → V p = .agg #[.int .i64 an, .int .i64 ad]) ∧ (D 1 = true → FracR w' (V q) (decide (an < 0)) an.natAbs ad.natAbs) ∧
  (D 2 = true → V r = .agg #[.int .i64 bn, .int .i64 bd]) ∧ (D 3 = true → FracR w' (V s) (decide (bn < 0)) bn.natAbs bd.natAbs) ∧
  (D 4 = true → FrR w w' (V 6) (decide (an < 0)) an.natAbs ad.natAbs (D 6 = true)) ∧ (D 5 = true → FrR w w' (V 7) (decide (bn < 0)) bn.natAbs bd.natAbs (D 7 = true)) ∧
  (D 4 = true → D 5 = true → V 6 ≠ V 7) ∧ (D 6 = true → D 4 = true) ∧ (D 7 = true → D 5 = true)

theorem FrR.below {w w1 w2 : World} {v : Value} {neg : Bool} {m n : Nat} {f : Prop} (h : FrR w w1 v neg m n f) (hb : Below w1.heap.size w1 w2) : FrR w w2 v neg m n f := by
  obtain ⟨b, h1, h2, h3, h4⟩ := h
  refine ⟨b, h1, h2, h3.below hb, fun hf => ?_⟩
  obtain ⟨x1, x2, k1, k2, k3⟩ := h4 hf
  exact ⟨x1, x2, k1.below hb, k2.below hb, k3.below hb⟩



theorem FrR.alloc {w w1 : World} {v : Value} {neg : Bool} {m n : Nat} {f : Prop} (h : FrR w w1 v neg m n f) (o : Obj) : FrR w (w1.alloc o) v neg m n f :=
  h.below ((Below.refl _ _).alloc (Nat.le_refl _) _)

theorem FrR.made {w w1 : World} (hs : w.heap.size + 2 < w1.heap.size) (neg : Bool) (m n : Nat) {f : Prop} (hf : ¬ f) : FrR w (w1.alloc (Obj.cells #[.bool false, .slice none 0 0, .slice none 0 0] 54)) (.pointer (some ⟨w1.heap.size, 0, none⟩)) neg m n f :=
  ⟨_, rfl, hs, ⟨[.bool false, .slice none 0 0, .slice none 0 0], rfl, nodigR, Box.made w1 54 _⟩, fun h => (hf h).elim⟩
theorem FrR.ne_made {w w1 : World} {v : Value} {neg : Bool} {m n : Nat} {f : Prop} (h : FrR w w1 v neg m n f) : v ≠ .pointer (some ⟨w1.heap.size, 0, none⟩) := by
  obtain ⟨b, rfl, h2, ⟨cs, _, _, hb⟩, _⟩ := h
  have := hb.lt
  intro e
  simp only [Value.pointer.injEq, Option.some.injEq, Addr.mk.injEq, and_true] at e
  omega


theorem NatV.set3R {w : World} {v : Value} {n : Nat} (h : NatV w .i64 R15 v n) {b : Nat} {T : TypeId} (hb : HasR w b T 3) (g : Bool) {a1 l1 c1 a2 l2 c2} : NatV (Ytpjjbdpkhmeldaa.set3 w b (.bool g) (.slice a1 l1 c1) (.slice a2 l2 c2)) .i64 R15 v n :=
  hb.nat h _ _ _ (by simp) (by simp)
theorem FracR.set3R {w : World} {v : Value} {neg : Bool} {m n : Nat} (h : FracR w v neg m n) {b : Nat} {T : TypeId} (hb : HasR w b T 3) (g : Bool) {a1 l1 c1 a2 l2 c2} : FracR (Ytpjjbdpkhmeldaa.set3 w b (.bool g) (.slice a1 l1 c1) (.slice a2 l2 c2)) v neg m n := by
  obtain ⟨x, y, e, h1, h2⟩ := h
  exact ⟨x, y, e, h1.set3R hb g, h2.set3R hb g⟩
theorem HasR.set3R {w : World} {b c : Nat} {T U : TypeId} {n : Nat} (h : HasR w b T n) (_hb : HasR w c U 3) (g : Bool) {a1 l1 c1 a2 l2 c2} : HasR (Ytpjjbdpkhmeldaa.set3 w c (.bool g) (.slice a1 l1 c1) (.slice a2 l2 c2)) b T n :=
  ((h.set c 0 _ (by simp)).set c 1 _ (by simp)).set c 2 _ (by simp)
theorem FrR.set3o {w w1 : World} {v : Value} {neg : Bool} {m n : Nat} {f : Prop} (h : FrR w w1 v neg m n f) {c : Nat} {U : TypeId} (hc : HasR w1 c U 3) (hv : v ≠ .pointer (some ⟨c, 0, none⟩)) (g : Bool) {a1 l1 c1 a2 l2 c2} : FrR w (Ytpjjbdpkhmeldaa.set3 w1 c (.bool g) (.slice a1 l1 c1) (.slice a2 l2 c2)) v neg m n f := by
  obtain ⟨b, rfl, h2, h3, h4⟩ := h
  have hbc : b ≠ c := fun e => hv (by rw [e])
  refine ⟨b, rfl, h2, h3.set3R hc g, fun hf => ?_⟩
  obtain ⟨x1, x2, k1, k2, k3⟩ := h4 hf
  exact ⟨x1, x2, k1.set3o hbc _ _ _, k2.set3R hc g, k3.set3R hc g⟩
theorem FrR.set3 {w w1 : World} {neg : Bool} {m n : Nat} {f f' : Prop} {b : Nat} (h : FrR w w1 (.pointer (some ⟨b, 0, none⟩)) neg m n f) {a1 l1 c1 a2 l2 c2} (h1 : NatV w1 .i64 R15 (.slice a1 l1 c1) m) (h2 : NatV w1 .i64 R15 (.slice a2 l2 c2) n) :
    FrR w (Ytpjjbdpkhmeldaa.set3 w1 b (.bool neg) (.slice a1 l1 c1) (.slice a2 l2 c2)) (.pointer (some ⟨b, 0, none⟩)) neg m n f' := by
  obtain ⟨b', e, h3, h4, _⟩ := h
  simp only [Value.pointer.injEq, Option.some.injEq, Addr.mk.injEq, and_true] at e
  subst e
  refine ⟨b, rfl, h3, h4.set3R h4 neg, fun _ => ⟨_, _, ?_, h1.set3R h4 neg, h2.set3R h4 neg⟩⟩
  obtain ⟨cs, hl, _, hb⟩ := h4
  have := ((hb.set 0 (.bool neg)).set 1 (.slice a1 l1 c1)).set 2 (.slice a2 l2 c2)
  match cs, hl with
  | [p, q, r], _ => exact this

def MuU (w : World) (bx bY : Nat) (g1 : Bool) (x1 x2 : Value) (g2 : Bool) (y1 y2 : Value) (wz : World) : Prop :=
  Below w.heap.size w wz ∧ Box wz bx 54 [.bool g1, x1, x2] ∧ Box wz bY 54 [.bool g2, y1, y2] ∧ w.heap.size + 2 < bx ∧ w.heap.size + 2 < bY
theorem MuU.step {w : World} {bx bY : Nat} {g1 : Bool} {x1 x2 : Value} {g2 : Bool} {y1 y2 : Value} {w1 w2 : World} (hb : Below w1.heap.size w1 w2) (h : MuU w bx bY g1 x1 x2 g2 y1 y2 w1) : MuU w bx bY g1 x1 x2 g2 y1 y2 w2 := by
  obtain ⟨h1, h2, h3, h4, h5⟩ := h
  exact ⟨h1.trans (hb.mono h1.size), h2.below hb, h3.below hb, h4, h5⟩
theorem MuU.st {w : World} {bx bY : Nat} {g1 : Bool} {x1 x2 : Value} {g2 : Bool} {y1 y2 : Value} {w1 : World} (h : MuU w bx bY g1 x1 x2 g2 y1 y2 w1) (i : Nat) (v : Value) : MuU w bx bY g1 x1 x2 g2 y1 y2 (w1.setCell ⟨w.heap.size + 1 + 1, i, none⟩ v) := by
  obtain ⟨h1, h2, h3, h4, h5⟩ := h
  exact ⟨h1.setCell (by simp; omega) _, h2.other (by omega) _ _, h3.other (by omega) _ _, h4, h5⟩
theorem MuU.all {w : World} {bx bY : Nat} {g1 : Bool} {x1 x2 : Value} {g2 : Bool} {y1 y2 : Value} {wz : World} (h : MuU w bx bY g1 x1 x2 g2 y1 y2 wz) :
    MuU w bx bY g1 x1 x2 g2 y1 y2 wz ∧ wz.cell? ⟨bx, 0, none⟩ = some (.bool g1) ∧ wz.cell? ⟨bx, 1, none⟩ = some x1 ∧ wz.cell? ⟨bx, 2, none⟩ = some x2 ∧ wz.cell? ⟨bY, 0, none⟩ = some (.bool g2) ∧ wz.cell? ⟨bY, 1, none⟩ = some y1 ∧ wz.cell? ⟨bY, 2, none⟩ = some y2 :=
  ⟨h, h.2.1.cell 0 _ rfl, h.2.1.cell 1 _ rfl, h.2.1.cell 2 _ rfl, h.2.2.1.cell 0 _ rfl, h.2.2.1.cell 1 _ rfl, h.2.2.1.cell 2 _ rfl⟩

set_option maxHeartbeats 1000000 in
theorem rmulS_ea (an ad bn bd : Int) (w : World) (han : I64 an) (had : I64 ad) (_hbn : I64 bn) (_hbd : I64 bd) (hva : Hid (validB an ad = false)) :
    Calls Try.prog 17 #[.agg #[.int .i64 an, .int .i64 ad], .agg #[.int .i64 bn, .int .i64 bd]] w fun e w' => e = RatE (0, 0, 1) ∧ Below w.heap.size w w' := by
  have hS := BiS.start w an ad bn bd
  go_enter Try.func17, Try.ntmps17
  go_wp2_with fail
  refine (rvalid_any an ad false hva.out _ han had).mono ?_
  rintro e wa ⟨rfl, hba⟩
  replace hS := hS.step hba
  clear hba

  obtain ⟨k1, k2, k3, k4, k5, k6, k7, k8⟩ := hS.cells
  have hbl := hS.1
  clear hS
  go_wp2
  refine bodyPost_ret (v := .tuple #[.agg #[.int .i64 0, .int .i64 0], .int .i64 1]) (by simp [results, Try.results17, go_sem, k5, k6]) rfl ⟨rfl, (hbl.setCell (by simp; omega) _).setCell (by simp; omega) _⟩

set_option maxHeartbeats 1000000 in
theorem rmulS_eb (an ad bn bd : Int) (w : World) (han : I64 an) (had : I64 ad) (hbn : I64 bn) (hbd : I64 bd) (hva : Hid (validB an ad = true)) (hvb : Hid (validB bn bd = false)) :
    Calls Try.prog 17 #[.agg #[.int .i64 an, .int .i64 ad], .agg #[.int .i64 bn, .int .i64 bd]] w fun e w' => e = RatE (0, 0, 1) ∧ Below w.heap.size w w' := by
  have hS := BiS.start w an ad bn bd
  go_enter Try.func17, Try.ntmps17
  go_wp2_with fail
  refine (rvalid_any an ad true hva.out _ han had).mono ?_
  rintro e wa ⟨rfl, hba⟩
  replace hS := hS.step hba
  clear hba
  obtain ⟨k1, k2, k3, k4, k5, k6, k7, k8⟩ := hS.cells
  go_wp2_with fail
  clear k1 k2 k3 k4 k5 k6 k7 k8
  refine (rvalid_any bn bd false hvb.out _ hbn hbd).mono ?_
  rintro e wb ⟨rfl, hbb⟩
  replace hS := hS.step hbb
  clear hbb

  obtain ⟨k1, k2, k3, k4, k5, k6, k7, k8⟩ := hS.cells
  have hbl := hS.1
  clear hS
  go_wp2
  refine bodyPost_ret (v := .tuple #[.agg #[.int .i64 0, .int .i64 0], .int .i64 1]) (by simp [results, Try.results17, go_sem, k5, k6]) rfl ⟨rfl, (hbl.setCell (by simp; omega) _).setCell (by simp; omega) _⟩

set_option maxHeartbeats 4000000 in
theorem rmulS_ok (an : Int) (ad : Nat) (bn : Int) (bd : Nat) (w : World) (han : I64 an) (had : I64 ad) (hbn : I64 bn) (hbd : I64 bd) (hva : Hid (validB an ad = true)) (hvb : Hid (validB bn bd = true)) (hsm : Hid (smallB an ad bn bd = false)) :
    Calls Try.prog 17 #[.agg #[.int .i64 an, .int .i64 ad], .agg #[.int .i64 bn, .int .i64 bd]] w fun e w' => e = RatE (mulS an ad bn bd) ∧ Below w.heap.size w w' := by
  have hS := BiS.start w an ad bn bd
  obtain ⟨a1, a2, a3, a4, a5⟩ := validB_true hva.out
  obtain ⟨b1, b2, b3, b4, b5⟩ := validB_true hvb.out
  clear a5 b5
  have CA := Lib.hid (fun wx => rwide_any an ad wx han had)
  have CB := Lib.hid (fun wx => rwide_any bn bd wx hbn hbd)
  go_enter Try.func17, Try.ntmps17
  go_wp2_with fail
  refine (rvalid_any an ad true hva.out _ han had).mono ?_
  rintro e wa ⟨rfl, hba⟩
  replace hS := hS.step hba
  clear hba
  obtain ⟨k1, k2, k3, k4, k5, k6, k7, k8⟩ := hS.cells
  go_wp2_with fail
  clear k1 k2 k3 k4 k5 k6 k7 k8
  refine (rvalid_any bn bd true hvb.out _ hbn hbd).mono ?_
  rintro e wb ⟨rfl, hbb⟩
  replace hS := hS.step hbb
  clear hbb
  obtain ⟨k1, k2, k3, k4, k5, k6, k7, k8⟩ := hS.cells
  go_wp2_with fail
  clear k1 k2 k3 k4 k5 k6 k7 k8
  refine (rsmall_any an ad bn bd false hsm.out _).mono ?_
  rintro e wc ⟨rfl, hbc⟩
  replace hS := hS.step hbc
  clear hbc
  obtain ⟨k1, k2, k3, k4, k5, k6, k7, k8⟩ := hS.cells
  go_upto_region 5 with fail
  clear k1 k2 k3 k4 k5 k6 k7 k8
  refine wp_region_V (by kernel_rfl) [33, 34, 35, 36, 6, 7] (by kernel_rfl) (by intro s hs; simp at hs ⊢; omega) (MuG 33 34 35 36 w an ad bn bd) ?_ ?_ ?_
  · exact ⟨hS.drew, by simp, by simp, by simp, by simp, by simp, by simp, by simp, by simp, by simp⟩
  · intro i o D V w' ho hF hDi hpre hV
    obtain ⟨f0, f1, f2, f3, f4, f5, f6, f7, f8, f9⟩ := hF
    obtain ⟨k1, k2, k3, k4, k5, k6, k7, k8⟩ := f0.cells
    have hV2 := hV 2 (by simp)
    have hV3 := hV 3 (by simp)
    simp at hV2 hV3
    rcases i with _ | _ | _ | _ | _ | _ | _ | _ | i
    · simp at ho; subst ho
      simp [opRun, execOp, evalV, hV2, go_sem, k1, k2]
      exact ⟨f0, fun _ => rfl, f2, f3, f4, f5, f6, f7, f8, f9⟩
    · simp at ho; subst ho
      simp [Region.binds] at hpre
      have e := f1 (by first | exact hpre | exact hpre.1 | exact hpre.2 | exact hpre.2.1 | exact hpre.2.2 | exact hpre.2.2.1 | exact hpre.2.2.2 | exact hpre.2.2.2.1 | exact hpre.2.2.2.2)
      simp [opRun, execOp, evalV, e, go_sem]
      refine (CA.out w').mono ?_
      rintro e w1 ⟨v, rfl, hv, hb⟩
      exact ⟨v, rfl, f0.step hb, f1, fun _ => hv, f3, fun h => (f4 h).below hb, fun h => (f5 h).below hb, fun h => (f6 h).below hb, f7, f8, f9⟩
    · simp at ho; subst ho
      simp [opRun, execOp, evalV, hV3, go_sem, k3, k4]
      exact ⟨f0, f1, f2, fun _ => rfl, f4, f5, f6, f7, f8, f9⟩
    · simp at ho; subst ho
      simp [Region.binds] at hpre
      have e := f3 (by first | exact hpre | exact hpre.1 | exact hpre.2 | exact hpre.2.1 | exact hpre.2.2 | exact hpre.2.2.1 | exact hpre.2.2.2 | exact hpre.2.2.2.1 | exact hpre.2.2.2.2)
      simp [opRun, execOp, evalV, e, go_sem]
      refine (CB.out w').mono ?_
      rintro e w1 ⟨v, rfl, hv, hb⟩
      exact ⟨v, rfl, f0.step hb, f1, fun h => (f2 h).below hb, f3, fun _ => hv, fun h => (f5 h).below hb, fun h => (f6 h).below hb, f7, f8, f9⟩
    · simp at ho; subst ho
      simp [opRun, execOp, go_sem]
      refine ⟨f0.alloc _, f1, fun h => (f2 h).alloc _, f3, fun h => (f4 h).alloc _, fun _ => FrR.made f0.size _ _ _ (fun h => ?_), fun h => (f6 h).alloc _, fun _ h => (f6 h).ne_made.symm, fun _ => rfl, f9⟩
      have := f8 h
      rw [hDi] at this; cases this
    · simp at ho; subst ho
      simp [opRun, execOp, go_sem]
      refine ⟨f0.alloc _, f1, fun h => (f2 h).alloc _, f3, fun h => (f4 h).alloc _, fun h => (f5 h).alloc _, fun _ => FrR.made f0.size _ _ _ (fun h => ?_), fun h _ => (f5 h).ne_made, f8, fun _ => rfl⟩
      have := f9 h
      rw [hDi] at this; cases this
    · simp at ho; subst ho
      simp [Region.binds] at hpre
      have d4 : D 4 = true := (by first | exact hpre | exact hpre.1 | exact hpre.2 | exact hpre.2.1 | exact hpre.2.2 | exact hpre.2.2.1 | exact hpre.2.2.2 | exact hpre.2.2.2.1 | exact hpre.2.2.2.2)
      have d1 : D 1 = true := (by first | exact hpre | exact hpre.1 | exact hpre.2 | exact hpre.2.1 | exact hpre.2.2 | exact hpre.2.2.1 | exact hpre.2.2.2 | exact hpre.2.2.2.1 | exact hpre.2.2.2.2)
      obtain ⟨b, e6, hb6, hh, hfull⟩ := f5 d4
      obtain ⟨x1, x2, e18, n1, n2⟩ := f2 d1
      obtain ⟨q1, r1, s1⟩ := n1.shape
      obtain ⟨q2, r2, s2⟩ := n2.shape
      subst s1 s2
      have m0 := hh.cell 0 (by omega)
      have m1 := hh.cell 1 (by omega)
      have m2 := hh.cell 2 (by omega)
      have m3 := hh.free 0
      have m4 := hh.free 1
      have m5 := hh.free 2
      simp [opRun, execOp, evalV, e6, e18, go_sem, m0, m1, m2, m3, m4, m5]
      refine ⟨f0.set3 hb6 _ _ _, f1, fun h => (f2 h).set3R hh _, f3, fun h => (f4 h).set3R hh _, fun _ => ?_, fun h => (f6 h).set3o hh (fun e => f7 d4 h (by rw [e6, e])) _, f7, fun _ => d4, f9⟩
      have := f5 d4
      rw [e6] at this
      rw [show V 6 = _ from e6]
      exact this.set3 n1 n2
    · simp at ho; subst ho
      simp [Region.binds] at hpre
      have d5 : D 5 = true := (by first | exact hpre | exact hpre.1 | exact hpre.2 | exact hpre.2.1 | exact hpre.2.2 | exact hpre.2.2.1 | exact hpre.2.2.2 | exact hpre.2.2.2.1 | exact hpre.2.2.2.2)
      have d3 : D 3 = true := (by first | exact hpre | exact hpre.1 | exact hpre.2 | exact hpre.2.1 | exact hpre.2.2 | exact hpre.2.2.1 | exact hpre.2.2.2 | exact hpre.2.2.2.1 | exact hpre.2.2.2.2)
      obtain ⟨b, e7, hb7, hh, hfull⟩ := f6 d5
      obtain ⟨x1, x2, e20, n1, n2⟩ := f4 d3
      obtain ⟨q1, r1, s1⟩ := n1.shape
      obtain ⟨q2, r2, s2⟩ := n2.shape
      subst s1 s2
      have m0 := hh.cell 0 (by omega)
      have m1 := hh.cell 1 (by omega)
      have m2 := hh.cell 2 (by omega)
      have m3 := hh.free 0
      have m4 := hh.free 1
      have m5 := hh.free 2
      simp [opRun, execOp, evalV, e7, e20, go_sem, m0, m1, m2, m3, m4, m5]
      refine ⟨f0.set3 hb7 _ _ _, f1, fun h => (f2 h).set3R hh _, f3, fun h => (f4 h).set3R hh _, fun h => (f5 h).set3o hh (fun e => f7 h d5 (by rw [e7, e])) _, fun _ => ?_, f7, f8, fun _ => d5⟩
      have := f6 d5
      rw [e7] at this
      rw [show V 7 = _ from e7]
      exact this.set3 n1 n2
    · simp at ho
  · intro D V w' hF hall
    obtain ⟨f0, f1, f2, f3, f4, f5, f6, f7, f8, f9⟩ := hF
    obtain ⟨bx, e6, hbx, _, hx⟩ := f5 (hall 4 (by decide))
    obtain ⟨bY, e7, hby, _, hy⟩ := f6 (hall 5 (by decide))
    obtain ⟨x1, x2, hbx1, nx1, nx2⟩ := hx (hall 6 (by decide))
    obtain ⟨y1, y2, hby1, ny1, ny2⟩ := hy (hall 7 (by decide))
    have e17 := f1 (hall 0 (by decide))
    have e19 := f3 (hall 2 (by decide))
    obtain ⟨v18, e18⟩ : ∃ v, v = V 34 := ⟨_, rfl⟩
    obtain ⟨v20, e20⟩ : ∃ v, v = V 36 := ⟨_, rfl⟩
    simp only [putAll, List.foldl_cons, List.foldl_nil, e6, e7, e17, e19, ← e18, ← e20]
    clear f1 f2 f3 f4 f5 f6 f7 f8 f9 hall hx hy e6 e7 e17 e19 e18 e20 hS
    simp only [Int.natAbs_natCast] at nx2 ny2
    obtain ⟨q1, r1, s1⟩ := nx1.shape
    obtain ⟨q2, r2, s2⟩ := nx2.shape
    obtain ⟨q3, r3, s3⟩ := ny1.shape
    obtain ⟨q4, r4, s4⟩ := ny2.shape
    have hl1 := natAbs_lenR an han
    have hl2 := natAbs_lenR ad had
    rw [Int.natAbs_natCast] at hl2
    have hl3 := natAbs_lenR bn hbn
    have hl4 := natAbs_lenR bd hbd
    rw [Int.natAbs_natCast] at hl4
    have hpl1 := digs_length_mul R15 R15_ge an.natAbs bn.natAbs
    have hpl2 := digs_length_mul R15 R15_ge ad bd
    obtain ⟨L1, hL1⟩ : ∃ l, l = (digs R15 an.natAbs).length := ⟨_, rfl⟩
    obtain ⟨L2, hL2⟩ : ∃ l, l = (digs R15 ad).length := ⟨_, rfl⟩
    obtain ⟨L3, hL3⟩ : ∃ l, l = (digs R15 bn.natAbs).length := ⟨_, rfl⟩
    obtain ⟨L4, hL4⟩ : ∃ l, l = (digs R15 bd).length := ⟨_, rfl⟩
    rw [← hL1] at s1; rw [← hL2] at s2; rw [← hL3] at s3; rw [← hL4] at s4
    subst s1 s2 s3 s4
    clear hL1 hL2 hL3 hL4
    have hdp : 0 < ad * bd := Nat.mul_pos (by omega) (by omega)
    have M1 := Lib.hid (fun wx h1 h2 => rmul_any (.slice q1 L1 r1) (.slice q3 L3 r3) an.natAbs bn.natAbs wx h1 h2 (by omega) (by omega))
    have M2 := Lib.hid (fun wx h1 h2 => rmul_any (.slice q2 L2 r2) (.slice q4 L4 r4) ad bd wx h1 h2 (by omega) (by omega))
    have e1 : mulS an ad bn bd = ratioS (decide (an < 0) != decide (bn < 0)) (an.natAbs * bn.natAbs) (ad * bd) := by
      unfold mulS; rw [hva.out, hvb.out]; rfl
    rw [bne_form] at e1
    have HE := Lib.hid e1
    obtain ⟨P1, hP1⟩ : ∃ p, p = an.natAbs * bn.natAbs := ⟨_, rfl⟩
    obtain ⟨P2, hP2⟩ : ∃ p, p = ad * bd := ⟨_, rfl⟩
    rw [← hP1] at M1 HE hpl1
    rw [← hP2] at M2 HE hpl2 hdp
    have RAT := Lib.hid (fun v wx h => rnarrow_any v (!decide (an < 0) == decide (bn < 0)) P1 P2 wx h (by omega) (by omega) hdp)
    have hT : MuU w bx bY (decide (an < 0)) (.slice q1 L1 r1) (.slice q2 L2 r2) (decide (bn < 0)) (.slice q3 L3 r3) (.slice q4 L4 r4) w' := ⟨f0.1, hbx1, hby1, hbx, hby⟩
    have hTd : MuU w bx bY (decide (an < 0)) (.slice q1 L1 r1) (.slice q2 L2 r2) (decide (bn < 0)) (.slice q3 L3 r3) (.slice q4 L4 r4) w'.drew := ⟨f0.1.drew, hbx1, hby1, hbx, hby⟩
    have hbd : Below w'.heap.size w' w'.drew := (Below.refl _ _).drew
    have fd := f0.step hbd
    obtain ⟨_, c1, c2, c3, c4, c5, c6⟩ := hT.all
    clear hP1 hP2 e1 hpl1 hpl2 hl1 hl2 hl3 hl4 hdp hbx1 hby1 CA CB
    simp only [Act.put, List.setIfInBounds_toArray, List.set_cons_succ, List.set_cons_zero]
    go_wp2
    go_region_held3 (fun wz => MuU w bx bY (decide (an < 0)) (.slice q1 L1 r1) (.slice q2 L2 r2) (decide (bn < 0)) (.slice q3 L3 r3) (.slice q4 L4 r4) wz ∧ wz.cell? ⟨bx, 0, none⟩ = some (.bool (decide (an < 0))) ∧ wz.cell? ⟨bx, 1, none⟩ = some (.slice q1 L1 r1) ∧ wz.cell? ⟨bx, 2, none⟩ = some (.slice q2 L2 r2) ∧ wz.cell? ⟨bY, 0, none⟩ = some (.bool (decide (bn < 0))) ∧ wz.cell? ⟨bY, 1, none⟩ = some (.slice q3 L3 r3) ∧ wz.cell? ⟨bY, 2, none⟩ = some (.slice q4 L4 r4)) (first | exact MuU.all (by assumption) | exact MuU.all (((by assumption : MuU w bx bY (decide (an < 0)) (.slice q1 L1 r1) (.slice q2 L2 r2) (decide (bn < 0)) (.slice q3 L3 r3) (.slice q4 L4 r4) _).st _ _).st _ _))
      (first
        | (go_at_call 47; (with_reducible refine (M1.out _ (nx1.below hbd) (ny1.below hbd)).mono ?_); rintro e w1 ⟨v1, rfl, hv1, hb1⟩; have hT1 := MuU.step hb1 hTd; have g1 := fd.step hb1; have hbw1 := hbd.trans hb1; obtain ⟨q5, r5, s5⟩ := hv1.shape; subst s5)
        | (go_at_call 47; (with_reducible refine (M2.out _ (nx2.below hbw1) (ny2.below hbw1)).mono ?_); rintro e w2 ⟨v2, rfl, hv2, hb2⟩; have hT2 := MuU.step hb2 hT1; have g2 := g1.step hb2; have hv1' := hv1.below hb2; obtain ⟨q6, r6, s6⟩ := hv2.shape; subst s6)
        | (go_at_call 43; (with_reducible refine (RAT.out _ _ (FracR.of_pair hv1' hv2)).mono ?_); rintro e w3 ⟨he, hb3⟩; have hT3 := MuU.step hb3 hT2; have g3 := g2.step hb3; obtain ⟨z1, z2, z3, hz9, he'⟩ := RatE_cases he; subst he'; have hcs := g3.cells; obtain ⟨m1, m2, m3, m4, m5, m6, m7, m8⟩ := hcs))
    clear c1 c2 c3 c4 c5 c6
    go_wp2
    obtain ⟨m1, m2, m3, m4, m5, m6, m7, m8⟩ := g3.cells
    refine bodyPost_ret (v := .tuple #[.agg #[.int .i64 z1, .int .i64 z2], .int .i64 z3]) (by simp [results, Try.results17, go_sem, m5, m6]) rfl ⟨?_, (g3.1.setCell (by simp; omega) _).setCell (by simp; omega) _⟩
    rw [HE.out, ← hz9]
    rfl


set_option maxHeartbeats 2000000 in
theorem rmulS_sm (an ad bn bd : Int) (w : World) (han : I64 an) (had : I64 ad) (hbn : I64 bn) (hbd : I64 bd) (hva : Hid (validB an ad = true)) (hvb : Hid (validB bn bd = true)) (hsm : Hid (smallB an ad bn bd = true)) :
    Calls Try.prog 17 #[.agg #[.int .i64 an, .int .i64 ad], .agg #[.int .i64 bn, .int .i64 bd]] w fun e w' => e = RatE (mulS an ad bn bd) ∧ Below w.heap.size w w' := by
  have hS := BiS.start w an ad bn bd
  rw [mulS_R an ad bn bd hva.out hvb.out]
  obtain ⟨a1, a2, a3, a4, a5⟩ := validB_true hva.out
  obtain ⟨b1, b2, b3, b4, b5⟩ := validB_true hvb.out
  clear a5 b5
  have hs := hsm.out
  unfold smallB at hs
  obtain ⟨s1, s2, s3, s4, s5, s6⟩ := of_decide_eq_true hs
  clear hs
  obtain ⟨m1, m2⟩ := prod_bd an bn s5 s3 s6 s4
  obtain ⟨m5, m6⟩ := prod_bd ad bd (by omega) s1 (by omega) s2
  have m7 : 0 < ad * bd := Int.mul_pos (by omega) (by omega)
  have CR := Lib.hid (fun wx => rreduced_int (an * bn) (ad * bd) wx (by omega) (by omega) (by omega) (by omega))
  obtain ⟨x, hx⟩ : ∃ x, x = R (an * bn) (ad * bd) := ⟨_, rfl⟩
  rw [← hx] at CR
  rw [← hx]
  clear hx
  obtain ⟨x1, x2, x3⟩ := x
  unfold RatE at CR
  simp only [] at CR
  clear a1 a2 a3 a4 b1 b2 b3 b4
  go_enter Try.func17, Try.ntmps17
  go_wp2_with fail
  refine (rvalid_any an ad true hva.out _ han had).mono ?_
  rintro e wa ⟨rfl, hba⟩
  replace hS := hS.step hba
  clear hba
  obtain ⟨k1, k2, k3, k4, k5, k6, k7, k8⟩ := hS.cells
  go_wp2_with fail
  clear k1 k2 k3 k4 k5 k6 k7 k8
  refine (rvalid_any bn bd true hvb.out _ hbn hbd).mono ?_
  rintro e wb ⟨rfl, hbb⟩
  replace hS := hS.step hbb
  clear hbb
  obtain ⟨k1, k2, k3, k4, k5, k6, k7, k8⟩ := hS.cells
  go_wp2_with fail
  clear k1 k2 k3 k4 k5 k6 k7 k8
  refine (rsmall_any an ad bn bd true hsm.out _).mono ?_
  rintro e wc ⟨rfl, hbc⟩
  replace hS := hS.step hbc
  clear hbc
  obtain ⟨k1, k2, k3, k4, k5, k6, k7, k8⟩ := hS.cells
  go_wp2_with fail
  refine (CR.out _).mono ?_
  rintro e wd ⟨rfl, hbd2⟩
  clear k1 k2 k3 k4 k5 k6 k7 k8
  replace hS := hS.step hbd2
  obtain ⟨k1, k2, k3, k4, k5, k6, k7, k8⟩ := hS.cells
  go_wp2
  refine bodyPost_ret (v := .tuple #[.agg #[.int .i64 x1, .int .i64 x2], .int .i64 x3]) (by simp [results, Try.results17, go_sem, k5, k6]) rfl ⟨rfl, (hS.1.setCell (by simp; omega) _).setCell (by simp; omega) _⟩

theorem rmul_ratio (an ad bn bd : Int) (w : World) (han : I64 an) (had : I64 ad) (hbn : I64 bn) (hbd : I64 bd) :
    Calls Try.prog 17 #[.agg #[.int .i64 an, .int .i64 ad], .agg #[.int .i64 bn, .int .i64 bd]] w fun e w' => e = RatE (mulS an ad bn bd) ∧ Below w.heap.size w w' := by
  rcases Bool.eq_false_or_eq_true (validB an ad) with hva | hva
  · rcases Bool.eq_false_or_eq_true (validB bn bd) with hvb | hvb
    · rcases Bool.eq_false_or_eq_true (smallB an ad bn bd) with hsm | hsm
      · exact rmulS_sm an ad bn bd w han had hbn hbd hva hvb hsm
      · obtain ⟨a1, _⟩ := validB_true hva
        obtain ⟨b1, _⟩ := validB_true hvb
        obtain ⟨x, rfl⟩ : ∃ x : Nat, ad = x := ⟨ad.toNat, by omega⟩
        obtain ⟨y, rfl⟩ : ∃ y : Nat, bd = y := ⟨bd.toNat, by omega⟩
        exact rmulS_ok an x bn y w han had hbn hbd hva hvb hsm
    · have e : mulS an ad bn bd = (0, 0, 1) := by unfold mulS; rw [hva, hvb]; rfl
      rw [e]; exact rmulS_eb an ad bn bd w han had hbn hbd hva hvb
  · have e : mulS an ad bn bd = (0, 0, 1) := by unfold mulS; rw [hva]; rfl
    rw [e]; exact rmulS_ea an ad bn bd w han had hbn hbd hva

theorem validB_inv (n d : Int) (h : validB n d = true) (h0 : 0 < n) : validB d n = true := by
  obtain ⟨h1, h2, h3, h4, h5⟩ := validB_true h
  exact decide_eq_true ⟨by omega, by omega, by omega, by omega, by rw [Nat.gcd_comm]; exact h5⟩

theorem divS_mul (an ad bn bd : Int) (ha : validB an ad = true) (hb : validB bn bd = true) (h0 : bn ≠ 0) : divS an ad bn bd = if bn < 0 then mulS an ad (-bd) (-bn) else mulS an ad bd bn := by
  obtain ⟨h1, _⟩ := validB_true ha
  rw [divS_R _ _ _ _ ha hb h0]
  by_cases hn : bn < 0
  · have hv : validB (-bd) (-bn) = true := validB_neg _ _ (validB_inv _ _ (validB_neg _ _ hb) (by omega))
    rw [if_pos hn, if_pos hn, if_pos hn, mulS_R _ _ _ _ ha hv, Int.mul_neg, Int.mul_neg]
  · have hv : validB bd bn = true := validB_inv _ _ hb (by omega)
    rw [if_neg hn, if_neg hn, if_neg hn, mulS_R _ _ _ _ ha hv]

set_option maxHeartbeats 1000000 in
theorem rdivS_ea (an ad bn bd : Int) (w : World) (han : I64 an) (had : I64 ad) (_hbn : I64 bn) (_hbd : I64 bd) (hva : Hid (validB an ad = false)) :
    Calls Try.prog 19 #[.agg #[.int .i64 an, .int .i64 ad], .agg #[.int .i64 bn, .int .i64 bd]] w fun e w' => e = RatE (0, 0, 1) ∧ Below w.heap.size w w' := by
  have hS := BiS.start w an ad bn bd
  go_enter Try.func19, Try.ntmps19
  go_wp2_with fail
  refine (rvalid_any an ad false hva.out _ han had).mono ?_
  rintro e wa ⟨rfl, hba⟩
  replace hS := hS.step hba
  clear hba

  obtain ⟨k1, k2, k3, k4, k5, k6, k7, k8⟩ := hS.cells
  have hbl := hS.1
  clear hS
  go_wp2
  refine bodyPost_ret (v := .tuple #[.agg #[.int .i64 0, .int .i64 0], .int .i64 1]) (by simp [results, Try.results19, go_sem, k5, k6]) rfl ⟨rfl, (hbl.setCell (by simp; omega) _).setCell (by simp; omega) _⟩

set_option maxHeartbeats 1000000 in
theorem rdivS_eb (an ad bn bd : Int) (w : World) (han : I64 an) (had : I64 ad) (hbn : I64 bn) (hbd : I64 bd) (hva : Hid (validB an ad = true)) (hvb : Hid (validB bn bd = false)) :
    Calls Try.prog 19 #[.agg #[.int .i64 an, .int .i64 ad], .agg #[.int .i64 bn, .int .i64 bd]] w fun e w' => e = RatE (0, 0, 1) ∧ Below w.heap.size w w' := by
  have hS := BiS.start w an ad bn bd
  go_enter Try.func19, Try.ntmps19
  go_wp2_with fail
  refine (rvalid_any an ad true hva.out _ han had).mono ?_
  rintro e wa ⟨rfl, hba⟩
  replace hS := hS.step hba
  clear hba
  obtain ⟨k1, k2, k3, k4, k5, k6, k7, k8⟩ := hS.cells
  go_wp2_with fail
  clear k1 k2 k3 k4 k5 k6 k7 k8
  refine (rvalid_any bn bd false hvb.out _ hbn hbd).mono ?_
  rintro e wb ⟨rfl, hbb⟩
  replace hS := hS.step hbb
  clear hbb

  obtain ⟨k1, k2, k3, k4, k5, k6, k7, k8⟩ := hS.cells
  have hbl := hS.1
  clear hS
  go_wp2
  refine bodyPost_ret (v := .tuple #[.agg #[.int .i64 0, .int .i64 0], .int .i64 1]) (by simp [results, Try.results19, go_sem, k5, k6]) rfl ⟨rfl, (hbl.setCell (by simp; omega) _).setCell (by simp; omega) _⟩

set_option maxHeartbeats 1000000 in
theorem rdivS_ec (an ad bn bd : Int) (w : World) (han : I64 an) (had : I64 ad) (hbn : I64 bn) (hbd : I64 bd) (hva : Hid (validB an ad = true)) (hvb : Hid (validB bn bd = true)) (hz : bn = 0) :
    Calls Try.prog 19 #[.agg #[.int .i64 an, .int .i64 ad], .agg #[.int .i64 bn, .int .i64 bd]] w fun e w' => e = RatE (0, 0, 1) ∧ Below w.heap.size w w' := by
  have hz' : (bn == 0) = true := by simpa using hz
  clear hz
  have hS := BiS.start w an ad bn bd
  go_enter Try.func19, Try.ntmps19
  go_wp2_with fail
  refine (rvalid_any an ad true hva.out _ han had).mono ?_
  rintro e wa ⟨rfl, hba⟩
  replace hS := hS.step hba
  clear hba
  obtain ⟨k1, k2, k3, k4, k5, k6, k7, k8⟩ := hS.cells
  go_wp2_with fail
  clear k1 k2 k3 k4 k5 k6 k7 k8
  refine (rvalid_any bn bd true hvb.out _ hbn hbd).mono ?_
  rintro e wb ⟨rfl, hbb⟩
  replace hS := hS.step hbb
  clear hbb

  obtain ⟨k1, k2, k3, k4, k5, k6, k7, k8⟩ := hS.cells
  have hbl := hS.1
  clear hS
  go_wp2
  refine bodyPost_ret (v := .tuple #[.agg #[.int .i64 0, .int .i64 0], .int .i64 1]) (by simp [results, Try.results19, go_sem, k5, k6]) rfl ⟨rfl, (hbl.setCell (by simp; omega) _).setCell (by simp; omega) _⟩


set_option maxHeartbeats 2000000 in
theorem rdivS_ok (an ad bn bd : Int) (w : World) (han : I64 an) (had : I64 ad) (hbn : I64 bn) (hbd : I64 bd) (hva : Hid (validB an ad = true)) (hvb : Hid (validB bn bd = true)) (hnz : bn ≠ 0) :
    Calls Try.prog 19 #[.agg #[.int .i64 an, .int .i64 ad], .agg #[.int .i64 bn, .int .i64 bd]] w fun e w' => e = RatE (divS an ad bn bd) ∧ Below w.heap.size w w' := by
  have hS := BiS.start w an ad bn bd
  rw [divS_mul an ad bn bd hva.out hvb.out hnz]
  obtain ⟨b1, b2, b3, b4, b5⟩ := validB_true hvb.out
  clear b5
  have hz : (bn == 0) = false := by simpa using hnz
  by_cases hn : bn < 0
  · rw [if_pos hn]
    have hng : decide (bn < 0) = true := by simpa using hn
    have CR := Lib.hid (fun wx => rmul_ratio an ad (-bd) (-bn) wx han had ⟨by omega, by omega⟩ ⟨by omega, by omega⟩)
    obtain ⟨x, hx⟩ : ∃ x, x = mulS an ad (-bd) (-bn) := ⟨_, rfl⟩
    rw [← hx] at CR
    rw [← hx]
    clear hx
    obtain ⟨x1, x2, x3⟩ := x
    unfold RatE at CR
    simp only [] at CR
    go_enter Try.func19, Try.ntmps19
    go_wp2_with fail
    refine (rvalid_any an ad true hva.out _ han had).mono ?_
    rintro e wa ⟨rfl, hba⟩
    replace hS := hS.step hba
    clear hba
    obtain ⟨k1, k2, k3, k4, k5, k6, k7, k8⟩ := hS.cells
    go_wp2_with fail
    clear k1 k2 k3 k4 k5 k6 k7 k8
    refine (rvalid_any bn bd true hvb.out _ hbn hbd).mono ?_
    rintro e wb ⟨rfl, hbb⟩
    replace hS := hS.step hbb
    clear hbb
    obtain ⟨k1, k2, k3, k4, k5, k6, k7, k8⟩ := hS.cells
    go_wp2_with fail
    refine (CR.out _).mono ?_
    rintro e wd ⟨rfl, hbd2⟩
    clear k1 k2 k3 k4 k5 k6 k7 k8
    replace hS := hS.step hbd2
    obtain ⟨k1, k2, k3, k4, k5, k6, k7, k8⟩ := hS.cells
    go_wp2
    refine bodyPost_ret (v := .tuple #[.agg #[.int .i64 x1, .int .i64 x2], .int .i64 x3]) (by simp [results, Try.results19, go_sem, k5, k6]) rfl ⟨rfl, (hS.1.setCell (by simp; omega) _).setCell (by simp; omega) _⟩
  · rw [if_neg hn]
    have hng : decide (bn < 0) = false := by simpa using hn
    have CR := Lib.hid (fun wx => rmul_ratio an ad bd bn wx han had hbd hbn)
    obtain ⟨x, hx⟩ : ∃ x, x = mulS an ad bd bn := ⟨_, rfl⟩
    rw [← hx] at CR
    rw [← hx]
    clear hx
    obtain ⟨x1, x2, x3⟩ := x
    unfold RatE at CR
    simp only [] at CR
    go_enter Try.func19, Try.ntmps19
    go_wp2_with fail
    refine (rvalid_any an ad true hva.out _ han had).mono ?_
    rintro e wa ⟨rfl, hba⟩
    replace hS := hS.step hba
    clear hba
    obtain ⟨k1, k2, k3, k4, k5, k6, k7, k8⟩ := hS.cells
    go_wp2_with fail
    clear k1 k2 k3 k4 k5 k6 k7 k8
    refine (rvalid_any bn bd true hvb.out _ hbn hbd).mono ?_
    rintro e wb ⟨rfl, hbb⟩
    replace hS := hS.step hbb
    clear hbb
    obtain ⟨k1, k2, k3, k4, k5, k6, k7, k8⟩ := hS.cells
    go_wp2_with fail
    refine (CR.out _).mono ?_
    rintro e wd ⟨rfl, hbd2⟩
    clear k1 k2 k3 k4 k5 k6 k7 k8
    replace hS := hS.step hbd2
    obtain ⟨k1, k2, k3, k4, k5, k6, k7, k8⟩ := hS.cells
    go_wp2
    refine bodyPost_ret (v := .tuple #[.agg #[.int .i64 x1, .int .i64 x2], .int .i64 x3]) (by simp [results, Try.results19, go_sem, k5, k6]) rfl ⟨rfl, (hS.1.setCell (by simp; omega) _).setCell (by simp; omega) _⟩

theorem rdiv_ratio (an ad bn bd : Int) (w : World) (han : I64 an) (had : I64 ad) (hbn : I64 bn) (hbd : I64 bd) :
    Calls Try.prog 19 #[.agg #[.int .i64 an, .int .i64 ad], .agg #[.int .i64 bn, .int .i64 bd]] w fun e w' => e = RatE (divS an ad bn bd) ∧ Below w.heap.size w w' := by
  rcases Bool.eq_false_or_eq_true (validB an ad) with hva | hva
  · rcases Bool.eq_false_or_eq_true (validB bn bd) with hvb | hvb
    · by_cases hz : bn = 0
      · have e : divS an ad bn bd = (0, 0, 1) := by unfold divS; rw [hva, hvb, hz]; rfl
        rw [e]; exact rdivS_ec an ad bn bd w han had hbn hbd hva hvb hz
      · exact rdivS_ok an ad bn bd w han had hbn hbd hva hvb hz
    · have e : divS an ad bn bd = (0, 0, 1) := by unfold divS; rw [hva, hvb]; rfl
      rw [e]; exact rdivS_eb an ad bn bd w han had hbn hbd hva hvb
  · have e : divS an ad bn bd = (0, 0, 1) := by unfold divS; rw [hva]; rfl
    rw [e]; exact rdivS_ea an ad bn bd w han had hbn hbd hva

theorem plusS_val (g1 : Bool) (m1 n1 : Nat) (g2 : Bool) (m2 n2 : Nat) :
    (if (plusS g1 m1 n1 g2 m2 n2).1 then -((plusS g1 m1 n1 g2 m2 n2).2.1 : Int) else ((plusS g1 m1 n1 g2 m2 n2).2.1 : Int)) = (if g1 then -(m1 : Int) else m1) * n2 + (if g2 then -(m2 : Int) else m2) * n1 := by
  unfold plusS
  have hc : ((m1 * n2 : Nat) : Int) = (m1 : Int) * n2 := Int.natCast_mul _ _
  have hc2 : ((m2 * n1 : Nat) : Int) = (m2 : Int) * n1 := Int.natCast_mul _ _
  split
  · rename_i h
    subst h
    cases g1 with
    | false => simp
    | true => simp only [if_true]; rw [Int.natCast_add, hc, hc2]; grind
  · rename_i h
    split
    · rename_i h2
      have e : ((m1 * n2 - m2 * n1 : Nat) : Int) = (m1 : Int) * n2 - m2 * n1 := by omega
      show (if g1 = true then -((m1 * n2 - m2 * n1 : Nat) : Int) else ((m1 * n2 - m2 * n1 : Nat) : Int)) = _
      rw [e]
      cases g1 <;> cases g2 <;> simp at h ⊢ <;> grind
    · rename_i h2
      have e : ((m2 * n1 - m1 * n2 : Nat) : Int) = (m2 : Int) * n1 - m1 * n2 := by omega
      show (if g2 = true then -((m2 * n1 - m1 * n2 : Nat) : Int) else ((m2 * n1 - m1 * n2 : Nat) : Int)) = _
      rw [e]
      cases g1 <;> cases g2 <;> simp at h ⊢ <;> grind

theorem lowS_sgn (g : Bool) (m n : Nat) (hn : 0 < n) : ((lowS g m n).2.1 = 0 ↔ (if g then -(m : Int) else (m : Int)) = 0) ∧ ((lowS g m n).1 = true ↔ (if g then -(m : Int) else (m : Int)) < 0) := by
  have g1 : 0 < Nat.gcd m n := Nat.gcd_pos_of_pos_right _ hn
  have g2 : Nat.gcd m n ∣ m := Nat.gcd_dvd_left m n
  have key : m / Nat.gcd m n = 0 ↔ m = 0 := by
    constructor
    · intro h
      have := Nat.div_mul_cancel g2
      rw [h] at this; omega
    · intro h; rw [h]; simp
  unfold lowS
  simp only []
  refine ⟨?_, ?_⟩
  · rw [key]; cases g <;> simp
  · cases g
    · simp
    · simp only [Bool.true_and, decide_eq_true_eq, if_true]
      generalize m / Nat.gcd m n = q at *
      omega

set_option maxHeartbeats 2000000 in
theorem rcmp_err (an ad bn bd : Int) (w : World) (han : I64 an) (had : I64 ad) (hbn : I64 bn) (hbd : I64 bd) (h : Hid (validB an ad = false ∨ (validB an ad = true ∧ validB bn bd = false))) :
    Calls Try.prog 31 #[.agg #[.int .i64 an, .int .i64 ad], .agg #[.int .i64 bn, .int .i64 bd]] w fun e w' => e = .returned (.int .i64 0) ∧ Below w.heap.size w w' := by
  have hS := B2.start w an ad bn bd
  rcases h.out with hva | ⟨hva, hvb⟩
  · have HA := Lib.hid hva
    clear hva
    go_enter Try.func31, Try.ntmps31
    go_wp2_with fail
    refine (rvalid_any an ad false HA.out _ han had).mono ?_
    rintro e wa ⟨rfl, hba⟩
    replace hS := hS.step hba
    clear hba
    go_wp2
    go_ret
    exact ⟨rfl, hS.1⟩
  · have HA := Lib.hid hva; have HB := Lib.hid hvb
    clear hva hvb
    go_enter Try.func31, Try.ntmps31
    go_wp2_with fail
    refine (rvalid_any an ad true HA.out _ han had).mono ?_
    rintro e wa ⟨rfl, hba⟩
    replace hS := hS.step hba
    clear hba
    obtain ⟨k1, k2, k3, k4⟩ := hS.cells
    go_wp2_with fail
    clear k1 k2 k3 k4
    refine (rvalid_any bn bd false HB.out _ hbn hbd).mono ?_
    rintro e wb ⟨rfl, hbb⟩
    replace hS := hS.step hbb
    clear hbb
    go_wp2
    go_ret
    exact ⟨rfl, hS.1⟩

theorem gcd_int_one (x : Nat) : Nat.gcd x 1 = 1 := Nat.gcd_one_right x

set_option maxHeartbeats 2000000 in
theorem rcmp_sm (an ad bn bd : Int) (w : World) (han : I64 an) (had : I64 ad) (hbn : I64 bn) (hbd : I64 bd) (hva : Hid (validB an ad = true)) (hvb : Hid (validB bn bd = true)) (hsm : Hid (smallB an ad bn bd = true)) :
    Calls Try.prog 31 #[.agg #[.int .i64 an, .int .i64 ad], .agg #[.int .i64 bn, .int .i64 bd]] w fun e w' => e = .returned (.int .i64 (cmpS an ad bn bd)) ∧ Below w.heap.size w w' := by
  have hS := B2.start w an ad bn bd
  rw [cmpS_sgn an ad bn bd hva.out hvb.out]
  obtain ⟨a1, a2, a3, a4, a5⟩ := validB_true hva.out
  obtain ⟨b1, b2, b3, b4, b5⟩ := validB_true hvb.out
  clear a5 b5
  have hs := hsm.out
  unfold smallB at hs
  obtain ⟨s1, s2, s3, s4, s5, s6⟩ := of_decide_eq_true hs
  clear hs
  obtain ⟨m1, m2⟩ := prod_bd an bd s5 s3 (by omega) s2
  obtain ⟨m3, m4⟩ := prod_bd bn ad s6 s4 (by omega) s1
  have CS := Lib.hid (fun wx => rsign_any (an * bd - bn * ad) 1 wx ⟨by omega, by omega⟩ ⟨by omega, by omega⟩)
  have e1 : signS (an * bd - bn * ad) 1 = sgn (an * bd - bn * ad) := by
    unfold signS
    rw [show validB (an * bd - bn * ad) 1 = true from decide_eq_true ⟨by omega, by omega, by omega, by omega, Nat.gcd_one_right _⟩]
    rfl
  rw [e1] at CS
  obtain ⟨x, hx⟩ : ∃ x, x = sgn (an * bd - bn * ad) := ⟨_, rfl⟩
  rw [← hx] at CS
  rw [← hx]
  clear hx e1 a1 a2 a3 a4 b1 b2 b3 b4
  go_enter Try.func31, Try.ntmps31
  go_wp2_with fail
  refine (rvalid_any an ad true hva.out _ han had).mono ?_
  rintro e wa ⟨rfl, hba⟩
  replace hS := hS.step hba
  clear hba
  obtain ⟨k1, k2, k3, k4⟩ := hS.cells
  go_wp2_with fail
  clear k1 k2 k3 k4
  refine (rvalid_any bn bd true hvb.out _ hbn hbd).mono ?_
  rintro e wb ⟨rfl, hbb⟩
  replace hS := hS.step hbb
  clear hbb
  obtain ⟨k1, k2, k3, k4⟩ := hS.cells
  go_wp2_with fail
  clear k1 k2 k3 k4
  refine (rsmall_any an ad bn bd true hsm.out _).mono ?_
  rintro e wc ⟨rfl, hbc⟩
  replace hS := hS.step hbc
  clear hbc
  obtain ⟨k1, k2, k3, k4⟩ := hS.cells
  go_wp2_with fail
  refine (CS.out _).mono ?_
  rintro e wd ⟨rfl, hbd2⟩
  go_wp2
  go_ret
  exact ⟨rfl, (hS.step hbd2).1⟩

set_option maxHeartbeats 4000000 in
theorem rcmp_big (an : Int) (ad : Nat) (bn : Int) (bd : Nat) (w : World) (han : I64 an) (had : I64 ad) (hbn : I64 bn) (hbd : I64 bd) (hva : Hid (validB an ad = true)) (hvb : Hid (validB bn bd = true)) (hsm : Hid (smallB an ad bn bd = false)) :
    Calls Try.prog 31 #[.agg #[.int .i64 an, .int .i64 ad], .agg #[.int .i64 bn, .int .i64 bd]] w fun e w' => e = .returned (.int .i64 (cmpS an ad bn bd)) ∧ Below w.heap.size w w' := by
  have hS := B2.start w an ad bn bd
  rw [cmpS_sgn an ad bn bd hva.out hvb.out]
  obtain ⟨a1, a2, a3, a4, a5⟩ := validB_true hva.out
  obtain ⟨b1, b2, b3, b4, b5⟩ := validB_true hvb.out
  clear a5 b5
  have hbn' : I64 (-bn) := ⟨by omega, by omega⟩
  have hl1 := natAbs_lenR an han
  have hl2 := natAbs_lenR ad had
  have hl3 := natAbs_lenR (-bn) hbn'
  have hl4 := natAbs_lenR bd hbd
  rw [Int.natAbs_natCast] at hl2 hl4
  have CW1 := Lib.hid (fun wx => rwide_any an ad wx han had)
  have CW2 := Lib.hid (fun wx => rwide_any (-bn) bd wx hbn' hbd)
  rw [Int.natAbs_natCast] at CW1 CW2
  have hv := plusS_val (decide (an < 0)) an.natAbs ad (decide (-bn < 0)) (-bn).natAbs bd
  rw [sg_abs, sg_abs] at hv
  obtain ⟨gb, hgb⟩ : ∃ g, g = decide (-bn < 0) := ⟨_, rfl⟩
  obtain ⟨mb, hmb⟩ : ∃ g, g = (-bn).natAbs := ⟨_, rfl⟩
  rw [← hgb, ← hmb] at CW2 hv
  rw [← hmb] at hl3
  clear hgb hmb
  have CP := Lib.hid (fun va vb wx h1 h2 => rplus_any va vb (decide (an < 0)) gb an.natAbs ad mb bd wx h1 h2 (by omega) (by omega) (by omega) (by omega) (by omega) (by omega))
  have hpd : 0 < (plusS (decide (an < 0)) an.natAbs ad gb mb bd).2.2 := by rw [plusS_den]; exact Nat.mul_pos (by omega) (by omega)
  obtain ⟨p, hp⟩ : ∃ p, p = plusS (decide (an < 0)) an.natAbs ad gb mb bd := ⟨_, rfl⟩
  rw [← hp] at CP hv hpd
  clear hp
  obtain ⟨pg, pm, pn⟩ := p
  simp only [] at CP hv hpd
  obtain ⟨z1, z2⟩ := lowS_sgn pg pm pn hpd
  rw [hv] at z1 z2
  have hval : an * bd + -bn * ad = an * bd - bn * ad := by grind
  rw [hval] at z1 z2
  obtain ⟨l, hl⟩ : ∃ l, l = lowS pg pm pn := ⟨_, rfl⟩
  rw [← hl] at CP z1 z2
  clear hl hv hpd hval
  obtain ⟨lg, lm, ln⟩ := l
  simp only [] at CP z1 z2
  have HR : Hid (sgn (an * bd - bn * ad) = if lm = 0 then 0 else if lg = true then -1 else 1) := Lib.hid (by
    rcases Int.lt_trichotomy (an * bd - bn * ad) 0 with h | h | h
    · rw [if_neg (fun e => by have := z1.1 e; omega), if_pos (z2.2 h), sgn_neg h]
    · rw [if_pos (z1.2 h), h]; rfl
    · rw [if_neg (fun e => by have := z1.1 e; omega), if_neg (fun e => by have := z2.1 e; omega), sgn_pos h])
  obtain ⟨x, hx⟩ : ∃ x, x = sgn (an * bd - bn * ad) := ⟨_, rfl⟩
  rw [← hx] at HR
  rw [← hx]
  clear hx z1 z2 hl1 hl2 hl3 hl4
  go_enter Try.func31, Try.ntmps31
  go_wp2_with fail
  refine (rvalid_any an ad true hva.out _ han had).mono ?_
  rintro e wa ⟨rfl, hba⟩
  replace hS := hS.step hba
  clear hba
  obtain ⟨k1, k2, k3, k4⟩ := hS.cells
  go_wp2_with fail
  clear k1 k2 k3 k4
  refine (rvalid_any bn bd true hvb.out _ hbn hbd).mono ?_
  rintro e wb ⟨rfl, hbb⟩
  replace hS := hS.step hbb
  clear hbb
  obtain ⟨k1, k2, k3, k4⟩ := hS.cells
  go_wp2_with fail
  clear k1 k2 k3 k4
  refine (rsmall_any an ad bn bd false hsm.out _).mono ?_
  rintro e wc ⟨rfl, hbc⟩
  replace hS := hS.step hbc
  clear hbc
  obtain ⟨k1, k2, k3, k4⟩ := hS.cells
  go_wp2_with fail
  refine (CW1.out _).mono ?_
  clear k1 k2 k3 k4 CW1
  rintro e wd ⟨v1, rfl, f1, hb1⟩
  obtain ⟨x1, x2, e1, n1, n2⟩ := f1
  obtain ⟨p1, c1, s1⟩ := n1.shape
  obtain ⟨p2, c2, s2⟩ := n2.shape
  subst s1 s2 e1
  have hbA : Below wd.heap.size wd (wd.alloc (Obj.cells #[.bool (decide (an < 0)), .slice p1 (digs R15 an.natAbs).length c1, .slice p2 (digs R15 ad).length c2] 54)) := (Below.refl _ _).alloc (Nat.le_refl _) _
  have hX := Box.made wd 54 [.bool (decide (an < 0)), .slice p1 (digs R15 an.natAbs).length c1, .slice p2 (digs R15 ad).length c2]
  replace hS := (hS.step hb1).step hbA
  replace n1 := n1.below hbA
  replace n2 := n2.below hbA
  clear hbA hb1
  obtain ⟨k1, k2, k3, k4⟩ := hS.cells
  go_wp2_with fail
  refine (CW2.out _).mono ?_
  clear k1 k2 k3 k4 CW2
  rintro e we ⟨v2, rfl, f2, hb2⟩
  obtain ⟨y1, y2, e2, n3, n4⟩ := f2
  obtain ⟨p3, c3, s3⟩ := n3.shape
  obtain ⟨p4, c4, s4⟩ := n4.shape
  subst s3 s4 e2
  have hbA : Below we.heap.size we (we.alloc (Obj.cells #[.bool gb, .slice p3 (digs R15 mb).length c3, .slice p4 (digs R15 bd).length c4] 54)) := (Below.refl _ _).alloc (Nat.le_refl _) _
  have hY := Box.made we 54 [.bool gb, .slice p3 (digs R15 mb).length c3, .slice p4 (digs R15 bd).length c4]
  replace hX := (hX.below hb2).below hbA
  replace n1 := (n1.below hb2).below hbA
  replace n2 := (n2.below hb2).below hbA
  replace n3 := n3.below hbA
  replace n4 := n4.below hbA
  replace hS := (hS.step hb2).step hbA
  clear hbA hb2
  obtain ⟨k1, k2, k3, k4⟩ := hS.cells
  have q1 := hX.cell 0 _ rfl
  have q2 := hX.cell 1 _ rfl
  have q3 := hX.cell 2 _ rfl
  have q4 := hY.cell 0 _ rfl
  have q5 := hY.cell 1 _ rfl
  have q6 := hY.cell 2 _ rfl
  go_wp2_with fail
  refine (CP.out _ _ _ (FracR.of_pair n1 n2) (FracR.of_pair n3 n4)).mono ?_
  clear k1 k2 k3 k4 q1 q2 q3 q4 q5 q6 CP n1 n2 n3 n4 hX hY
  rintro e wf ⟨v3, rfl, f3, hb3⟩
  obtain ⟨y1, y2, e3, n5, n6⟩ := f3
  obtain ⟨p5, c5, s5⟩ := n5.shape
  obtain ⟨p6, c6, s6⟩ := n6.shape
  subst s5 s6 e3
  have hz : (lm = 0) ↔ (digs R15 lm).length = 0 := by
    have := digs_eq_nil R15 R15_ge lm
    omega
  obtain ⟨l5, hl5⟩ : ∃ l, l = (digs R15 lm).length := ⟨_, rfl⟩
  obtain ⟨l6, hl6⟩ : ∃ l, l = (digs R15 ln).length := ⟨_, rfl⟩
  rw [← hl5] at hz
  rw [← hl5, ← hl6]
  clear hl5 hl6 n5 n6
  have hbA : Below wf.heap.size wf (wf.alloc (Obj.cells #[.bool lg, .slice p5 l5 c5, .slice p6 l6 c6] 54)) := (Below.refl _ _).alloc (Nat.le_refl _) _
  have hZ := Box.made wf 54 [.bool lg, .slice p5 l5 c5, .slice p6 l6 c6]
  replace hS := (hS.step hb3).step hbA
  clear hbA hb3
  have q1 := hZ.cell 0 _ rfl
  have q2 := hZ.cell 1 _ rfl
  clear hZ
  by_cases h0 : lm = 0
  · obtain rfl : l5 = 0 := hz.1 h0
    have hr := HR.out
    rw [if_pos h0] at hr
    subst hr
    clear hz h0 HR
    go_wp2
    go_ret
    exact ⟨rfl, hS.1⟩
  · have hl : ((l5 : Int) == 0) = false := by simp; omega
    have hl2 : (l5 == 0) = false := by simp; omega
    have hr := HR.out
    rw [if_neg h0] at hr
    clear hz h0 HR
    cases lg
    · rw [if_neg (by simp)] at hr
      subst hr
      go_wp2
      go_ret
      exact ⟨rfl, hS.1⟩
    · rw [if_pos rfl] at hr
      subst hr
      go_wp2
      go_ret
      exact ⟨rfl, hS.1⟩

theorem rcmp_ratio (an ad bn bd : Int) (w : World) (han : I64 an) (had : I64 ad) (hbn : I64 bn) (hbd : I64 bd) :
    Calls Try.prog 31 #[.agg #[.int .i64 an, .int .i64 ad], .agg #[.int .i64 bn, .int .i64 bd]] w fun e w' => e = .returned (.int .i64 (cmpS an ad bn bd)) ∧ Below w.heap.size w w' := by
  rcases Bool.eq_false_or_eq_true (validB an ad) with hva | hva
  · rcases Bool.eq_false_or_eq_true (validB bn bd) with hvb | hvb
    · rcases Bool.eq_false_or_eq_true (smallB an ad bn bd) with hsm | hsm
      · exact rcmp_sm an ad bn bd w han had hbn hbd hva hvb hsm
      · obtain ⟨a1, _⟩ := validB_true hva
        obtain ⟨b1, _⟩ := validB_true hvb
        obtain ⟨x, rfl⟩ : ∃ x : Nat, ad = x := ⟨ad.toNat, by omega⟩
        obtain ⟨y, rfl⟩ : ∃ y : Nat, bd = y := ⟨bd.toNat, by omega⟩
        exact rcmp_big an x bn y w han had hbn hbd hva hvb hsm
    · have e : cmpS an ad bn bd = 0 := by unfold cmpS; rw [hva, hvb]; rfl
      rw [e]; exact rcmp_err an ad bn bd w han had hbn hbd (Lib.hid (.inr ⟨hva, hvb⟩))
  · have e : cmpS an ad bn bd = 0 := by unfold cmpS; rw [hva]; rfl
    rw [e]; exact rcmp_err an ad bn bd w han had hbn hbd (Lib.hid (.inl hva))

end Go.Proofs.Ytpjjbdpkhmeldaa
