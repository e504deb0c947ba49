/- contracts of ratio's Mul, Div -/
import Derived.Test.YtpjjbdpkhmeldaaDoorB3
namespace Go.Proofs.YtpjjbdpkhmeldaaDoor
open Go.RowKit

def mulS (an ad bn bd : Int) : Int × Int × Int :=
  if validB an ad && validB bn bd then ratioS (decide (an < 0) != decide (bn < 0)) (an.natAbs * bn.natAbs) (ad.natAbs * bd.natAbs) else (0, 0, 1)
def divS (an ad bn bd : Int) : Int × Int × Int :=
  if validB an ad && validB bn bd && bn != 0 then ratioS (decide (an < 0) != decide (bn < 0)) (an.natAbs * bd.natAbs) (ad.natAbs * bn.natAbs) else (0, 0, 1)

/-- a fraction of known cells in a box of the call's own -/
def FrB (w w' : World) (v : Value) (neg : Bool) (m n : Nat) (full : Prop) : Prop :=
  ∃ b, v = .pointer (some ⟨b, 0, none⟩) ∧ w.heap.size + 2 < b ∧ Has w' b 46 3 ∧ (full → ∃ x1 x2, Box w' b 46 [.bool neg, x1, x2] ∧ NatV w' .u32 W32 x1 m ∧ NatV w' .u32 W32 x2 n)

/-- the region's invariant -/
def MuF (p q r s : Nat) (w : World) (an ad bn bd : Int) (D : Nat → Bool) (V : Nat → Value) (w' : World) : Prop :=
  BiS w an ad bn bd w' ∧ (D 0 = true → V p = .agg #[.int .i64 an, .int .i64 ad]) ∧ (D 1 = true → FracV w' (V q) (decide (an < 0)) an.natAbs ad.natAbs) ∧
  (D 2 = true → V r = .agg #[.int .i64 bn, .int .i64 bd]) ∧ (D 3 = true → FracV w' (V s) (decide (bn < 0)) bn.natAbs bd.natAbs) ∧
  (D 4 = true → FrB w w' (V 6) (decide (an < 0)) an.natAbs ad.natAbs (D 6 = true)) ∧ (D 5 = true → FrB w w' (V 7) (decide (bn < 0)) bn.natAbs bd.natAbs (D 7 = true)) ∧
  (D 4 = true → D 5 = true → V 6 ≠ V 7) ∧ (D 6 = true → D 4 = true) ∧ (D 7 = true → D 5 = true)

theorem FrB.below {w w1 w2 : World} {v : Value} {neg : Bool} {m n : Nat} {f : Prop} (h : FrB w w1 v neg m n f) (hb : Below w1.heap.size w1 w2) : FrB w w2 v neg m n f := by
  obtain ⟨b, h1, h2, h3, h4⟩ := h
  refine ⟨b, h1, h2, h3.below hb, fun hf => ?_⟩
  obtain ⟨x1, x2, k1, k2, k3⟩ := h4 hf
  exact ⟨x1, x2, k1.below hb, k2.below hb, k3.below hb⟩


theorem FracV.of_pair {w' : World} {g : Bool} {x y : Value} {m n : Nat} (hx : NatV w' .u32 W32 x m) (hy : NatV w' .u32 W32 y n) : FracV w' (.agg #[.bool g, x, y]) g m n := ⟨x, y, rfl, hx, hy⟩

theorem FrB.alloc {w w1 : World} {v : Value} {neg : Bool} {m n : Nat} {f : Prop} (h : FrB w w1 v neg m n f) (o : Obj) : FrB w (w1.alloc o) v neg m n f :=
  h.below ((Below.refl _ _).alloc (Nat.le_refl _) _)
theorem FracV.alloc {w1 : World} {v : Value} {neg : Bool} {m n : Nat} (h : FracV w1 v neg m n) (o : Obj) : FracV (w1.alloc o) v neg m n :=
  h.below ((Below.refl _ _).alloc (Nat.le_refl _) _)
theorem BiS.alloc {w : World} {an ad bn bd : Int} {w1 : World} (h : BiS w an ad bn bd w1) (o : Obj) : BiS w an ad bn bd (w1.alloc o) :=
  h.step ((Below.refl _ _).alloc (Nat.le_refl _) _)
theorem BiS.size {w : World} {an ad bn bd : Int} {w1 : World} (h : BiS w an ad bn bd w1) : w.heap.size + 2 < w1.heap.size := h.2.2.2.lt

theorem FrB.made {w w1 : World} (hs : w.heap.size + 2 < w1.heap.size) (neg : Bool) (m n : Nat) {f : Prop} (hf : ¬ f) : FrB w (w1.alloc (Obj.cells #[.bool false, .slice none 0 0, .slice none 0 0] 46)) (.pointer (some ⟨w1.heap.size, 0, none⟩)) neg m n f :=
  ⟨_, rfl, hs, ⟨[.bool false, .slice none 0 0, .slice none 0 0], rfl, nodig3, Box.made w1 46 _⟩, fun h => (hf h).elim⟩
theorem FrB.ne_made {w w1 : World} {v : Value} {neg : Bool} {m n : Nat} {f : Prop} (h : FrB w w1 v neg m n f) : v ≠ .pointer (some ⟨w1.heap.size, 0, none⟩) := by
  obtain ⟨b, rfl, h2, ⟨cs, _, _, hb⟩, _⟩ := h
  have := hb.lt
  intro e
  simp only [Value.pointer.injEq, Option.some.injEq, Addr.mk.injEq, and_true] at e
  omega

/-- three stores into a box -/
def set3 (w : World) (b : Nat) (x y z : Value) : World := ((w.setCell ⟨b, 0, none⟩ x).setCell ⟨b, 1, none⟩ y).setCell ⟨b, 2, none⟩ z

theorem NatV.set3 {w : World} {v : Value} {n : Nat} (h : NatV w .u32 W32 v n) {b : Nat} {T : TypeId} (hb : Has w b T 3) (g : Bool) {a1 l1 c1 a2 l2 c2} : NatV (set3 w b (.bool g) (.slice a1 l1 c1) (.slice a2 l2 c2)) .u32 W32 v n :=
  hb.nat h _ _ _ (by simp) (by simp)
theorem FracV.set3 {w : World} {v : Value} {neg : Bool} {m n : Nat} (h : FracV w v neg m n) {b : Nat} {T : TypeId} (hb : Has w b T 3) (g : Bool) {a1 l1 c1 a2 l2 c2} : FracV (set3 w b (.bool g) (.slice a1 l1 c1) (.slice a2 l2 c2)) v neg m n := by
  obtain ⟨x, y, e, h1, h2⟩ := h
  exact ⟨x, y, e, h1.set3 hb g, h2.set3 hb g⟩
theorem Has.set3 {w : World} {b c : Nat} {T U : TypeId} {n : Nat} (h : Has w b T n) (_hb : Has w c U 3) (g : Bool) {a1 l1 c1 a2 l2 c2} : Has (set3 w c (.bool g) (.slice a1 l1 c1) (.slice a2 l2 c2)) b T n :=
  ((h.set c 0 _ (by simp)).set c 1 _ (by simp)).set c 2 _ (by simp)
theorem Box.set3o {w : World} {b c : Nat} {T : TypeId} {cs : List Value} (h : Box w b T cs) (hbc : b ≠ c) (x y z : Value) : Box (set3 w c x y z) b T cs := ((h.other hbc _ _).other hbc _ _).other hbc _ _
theorem BiS.set3 {w : World} {an ad bn bd : Int} {w1 : World} (h : BiS w an ad bn bd w1) {b : Nat} (hb : w.heap.size + 2 < b) (x y z : Value) : BiS w an ad bn bd (set3 w1 b x y z) :=
  ⟨((h.1.setCell (by simp; omega) _).setCell (by simp; omega) _).setCell (by simp; omega) _, h.2.1.set3o (by omega) _ _ _, h.2.2.1.set3o (by omega) _ _ _, h.2.2.2.set3o (by omega) _ _ _⟩
theorem FrB.set3o {w w1 : World} {v : Value} {neg : Bool} {m n : Nat} {f : Prop} (h : FrB w w1 v neg m n f) {c : Nat} {U : TypeId} (hc : Has w1 c U 3) (hv : v ≠ .pointer (some ⟨c, 0, none⟩)) (g : Bool) {a1 l1 c1 a2 l2 c2} : FrB w (YtpjjbdpkhmeldaaDoor.set3 w1 c (.bool g) (.slice a1 l1 c1) (.slice a2 l2 c2)) v neg m n f := by
  obtain ⟨b, rfl, h2, h3, h4⟩ := h
  have hbc : b ≠ c := fun e => hv (by rw [e])
  refine ⟨b, rfl, h2, h3.set3 hc g, fun hf => ?_⟩
  obtain ⟨x1, x2, k1, k2, k3⟩ := h4 hf
  exact ⟨x1, x2, k1.set3o hbc _ _ _, k2.set3 hc g, k3.set3 hc g⟩
theorem FrB.set3 {w w1 : World} {neg : Bool} {m n : Nat} {f f' : Prop} {b : Nat} (h : FrB w w1 (.pointer (some ⟨b, 0, none⟩)) neg m n f) {a1 l1 c1 a2 l2 c2} (h1 : NatV w1 .u32 W32 (.slice a1 l1 c1) m) (h2 : NatV w1 .u32 W32 (.slice a2 l2 c2) n) :
    FrB w (YtpjjbdpkhmeldaaDoor.set3 w1 b (.bool neg) (.slice a1 l1 c1) (.slice a2 l2 c2)) (.pointer (some ⟨b, 0, none⟩)) neg m n f' := by
  obtain ⟨b', e, h3, h4, _⟩ := h
  simp only [Value.pointer.injEq, Option.some.injEq, Addr.mk.injEq, and_true] at e
  subst e
  refine ⟨b, rfl, h3, h4.set3 h4 neg, fun _ => ⟨_, _, ?_, h1.set3 h4 neg, h2.set3 h4 neg⟩⟩
  obtain ⟨cs, hl, _, hb⟩ := h4
  have := ((hb.set 0 (.bool neg)).set 1 (.slice a1 l1 c1)).set 2 (.slice a2 l2 c2)
  match cs, hl with
  | [p, q, r], _ => exact this

def MuT (w : World) (bx bY : Nat) (g1 : Bool) (x1 x2 : Value) (g2 : Bool) (y1 y2 : Value) (wz : World) : Prop :=
  Below w.heap.size w wz ∧ Box wz bx 46 [.bool g1, x1, x2] ∧ Box wz bY 46 [.bool g2, y1, y2] ∧ w.heap.size + 2 < bx ∧ w.heap.size + 2 < bY
theorem MuT.step {w : World} {bx bY : Nat} {g1 : Bool} {x1 x2 : Value} {g2 : Bool} {y1 y2 : Value} {w1 w2 : World} (hb : Below w1.heap.size w1 w2) (h : MuT w bx bY g1 x1 x2 g2 y1 y2 w1) : MuT w bx bY g1 x1 x2 g2 y1 y2 w2 := by
  obtain ⟨h1, h2, h3, h4, h5⟩ := h
  exact ⟨h1.trans (hb.mono h1.size), h2.below hb, h3.below hb, h4, h5⟩
theorem MuT.st {w : World} {bx bY : Nat} {g1 : Bool} {x1 x2 : Value} {g2 : Bool} {y1 y2 : Value} {w1 : World} (h : MuT w bx bY g1 x1 x2 g2 y1 y2 w1) (i : Nat) (v : Value) : MuT w bx bY g1 x1 x2 g2 y1 y2 (w1.setCell ⟨w.heap.size + 1 + 1, i, none⟩ v) := by
  obtain ⟨h1, h2, h3, h4, h5⟩ := h
  exact ⟨h1.setCell (by simp; omega) _, h2.other (by omega) _ _, h3.other (by omega) _ _, h4, h5⟩
theorem MuT.all {w : World} {bx bY : Nat} {g1 : Bool} {x1 x2 : Value} {g2 : Bool} {y1 y2 : Value} {wz : World} (h : MuT w bx bY g1 x1 x2 g2 y1 y2 wz) :
    MuT w bx bY g1 x1 x2 g2 y1 y2 wz ∧ wz.cell? ⟨bx, 0, none⟩ = some (.bool g1) ∧ wz.cell? ⟨bx, 1, none⟩ = some x1 ∧ wz.cell? ⟨bx, 2, none⟩ = some x2 ∧ wz.cell? ⟨bY, 0, none⟩ = some (.bool g2) ∧ wz.cell? ⟨bY, 1, none⟩ = some y1 ∧ wz.cell? ⟨bY, 2, none⟩ = some y2 :=
  ⟨h, h.2.1.cell 0 _ rfl, h.2.1.cell 1 _ rfl, h.2.1.cell 2 _ rfl, h.2.2.1.cell 0 _ rfl, h.2.2.1.cell 1 _ rfl, h.2.2.1.cell 2 _ rfl⟩

theorem bne_form (a b : Bool) : (a != b) = (!a == b) := by cases a <;> cases b <;> rfl

set_option maxHeartbeats 1000000 in
theorem mulS_ea (an ad bn bd : Int) (w : World) (han : I64 an) (had : I64 ad) (_hbn : I64 bn) (_hbd : I64 bd) (hva : Hid (validB an ad = false)) :
    Calls Tryd.prog 12 #[.agg #[.int .i64 an, .int .i64 ad], .agg #[.int .i64 bn, .int .i64 bd]] w fun e w' => e = RatE (0, 0, 1) ∧ Below w.heap.size w w' := by
  have hS := BiS.start w an ad bn bd
  go_enter Tryd.func12, Tryd.ntmps12
  go_wp2_with fail
  refine (valid_any an ad false hva.out _ han had).mono ?_
  rintro e wa ⟨rfl, hba⟩
  replace hS := hS.step hba
  clear hba

  obtain ⟨k1, k2, k3, k4, k5, k6, k7, k8⟩ := hS.cells
  have hbl := hS.1
  clear hS
  go_wp2
  refine bodyPost_ret (v := .tuple #[.agg #[.int .i64 0, .int .i64 0], .int .i64 1]) (by simp [results, Tryd.results12, go_sem, k5, k6]) rfl ⟨rfl, (hbl.setCell (by simp; omega) _).setCell (by simp; omega) _⟩

set_option maxHeartbeats 1000000 in
theorem mulS_eb (an ad bn bd : Int) (w : World) (han : I64 an) (had : I64 ad) (hbn : I64 bn) (hbd : I64 bd) (hva : Hid (validB an ad = true)) (hvb : Hid (validB bn bd = false)) :
    Calls Tryd.prog 12 #[.agg #[.int .i64 an, .int .i64 ad], .agg #[.int .i64 bn, .int .i64 bd]] w fun e w' => e = RatE (0, 0, 1) ∧ Below w.heap.size w w' := by
  have hS := BiS.start w an ad bn bd
  go_enter Tryd.func12, Tryd.ntmps12
  go_wp2_with fail
  refine (valid_any an ad true hva.out _ han had).mono ?_
  rintro e wa ⟨rfl, hba⟩
  replace hS := hS.step hba
  clear hba
  obtain ⟨k1, k2, k3, k4, k5, k6, k7, k8⟩ := hS.cells
  go_wp2_with fail
  clear k1 k2 k3 k4 k5 k6 k7 k8
  refine (valid_any bn bd false hvb.out _ hbn hbd).mono ?_
  rintro e wb ⟨rfl, hbb⟩
  replace hS := hS.step hbb
  clear hbb

  obtain ⟨k1, k2, k3, k4, k5, k6, k7, k8⟩ := hS.cells
  have hbl := hS.1
  clear hS
  go_wp2
  refine bodyPost_ret (v := .tuple #[.agg #[.int .i64 0, .int .i64 0], .int .i64 1]) (by simp [results, Tryd.results12, go_sem, k5, k6]) rfl ⟨rfl, (hbl.setCell (by simp; omega) _).setCell (by simp; omega) _⟩

set_option maxHeartbeats 4000000 in
theorem mulS_ok (an : Int) (ad : Nat) (bn : Int) (bd : Nat) (w : World) (han : I64 an) (had : I64 ad) (hbn : I64 bn) (hbd : I64 bd) (hva : Hid (validB an ad = true)) (hvb : Hid (validB bn bd = true)) :
    Calls Tryd.prog 12 #[.agg #[.int .i64 an, .int .i64 ad], .agg #[.int .i64 bn, .int .i64 bd]] w fun e w' => e = RatE (mulS an ad bn bd) ∧ Below w.heap.size w w' := by
  have hS := BiS.start w an ad bn bd
  obtain ⟨a1, a2, a3, a4, a5⟩ := validB_true hva.out
  obtain ⟨b1, b2, b3, b4, b5⟩ := validB_true hvb.out
  clear a5 b5
  have CA := Lib.hid (fun wx => of_any an ad wx (by omega) (by omega))
  have CB := Lib.hid (fun wx => of_any bn bd wx (by omega) (by omega))
  go_enter Tryd.func12, Tryd.ntmps12
  go_wp2_with fail
  refine (valid_any an ad true hva.out _ han had).mono ?_
  rintro e wa ⟨rfl, hba⟩
  replace hS := hS.step hba
  clear hba
  obtain ⟨k1, k2, k3, k4, k5, k6, k7, k8⟩ := hS.cells
  go_wp2_with fail
  clear k1 k2 k3 k4 k5 k6 k7 k8
  refine (valid_any bn bd true hvb.out _ hbn hbd).mono ?_
  rintro e wb ⟨rfl, hbb⟩
  replace hS := hS.step hbb
  clear hbb
  obtain ⟨k1, k2, k3, k4, k5, k6, k7, k8⟩ := hS.cells
  go_upto_region 3 with fail
  clear k1 k2 k3 k4 k5 k6 k7 k8
  refine wp_region_V (by kernel_rfl) [17, 18, 19, 20, 6, 7] (by kernel_rfl) (by intro s hs; simp at hs ⊢; omega) (MuF 17 18 19 20 w an ad bn bd) ?_ ?_ ?_
  · exact ⟨hS.drew, by simp, by simp, by simp, by simp, by simp, by simp, by simp, by simp, by simp⟩
  · intro i o D V w' ho hF hDi hpre hV
    obtain ⟨f0, f1, f2, f3, f4, f5, f6, f7, f8, f9⟩ := hF
    obtain ⟨k1, k2, k3, k4, k5, k6, k7, k8⟩ := f0.cells
    have hV2 := hV 2 (by simp)
    have hV3 := hV 3 (by simp)
    simp at hV2 hV3
    rcases i with _ | _ | _ | _ | _ | _ | _ | _ | i
    · simp at ho; subst ho
      simp [opRun, execOp, evalV, hV2, go_sem, k1, k2]
      exact ⟨f0, fun _ => rfl, f2, f3, f4, f5, f6, f7, f8, f9⟩
    · simp at ho; subst ho
      simp [Region.binds] at hpre
      have e := f1 (by first | exact hpre | exact hpre.1 | exact hpre.2 | exact hpre.2.1 | exact hpre.2.2 | exact hpre.2.2.1 | exact hpre.2.2.2 | exact hpre.2.2.2.1 | exact hpre.2.2.2.2)
      simp [opRun, execOp, evalV, e, go_sem]
      refine (CA.out w').mono ?_
      rintro e w1 ⟨v, rfl, hv, hb⟩
      exact ⟨v, rfl, f0.step hb, f1, fun _ => hv, f3, fun h => (f4 h).below hb, fun h => (f5 h).below hb, fun h => (f6 h).below hb, f7, f8, f9⟩
    · simp at ho; subst ho
      simp [opRun, execOp, evalV, hV3, go_sem, k3, k4]
      exact ⟨f0, f1, f2, fun _ => rfl, f4, f5, f6, f7, f8, f9⟩
    · simp at ho; subst ho
      simp [Region.binds] at hpre
      have e := f3 (by first | exact hpre | exact hpre.1 | exact hpre.2 | exact hpre.2.1 | exact hpre.2.2 | exact hpre.2.2.1 | exact hpre.2.2.2 | exact hpre.2.2.2.1 | exact hpre.2.2.2.2)
      simp [opRun, execOp, evalV, e, go_sem]
      refine (CB.out w').mono ?_
      rintro e w1 ⟨v, rfl, hv, hb⟩
      exact ⟨v, rfl, f0.step hb, f1, fun h => (f2 h).below hb, f3, fun _ => hv, fun h => (f5 h).below hb, fun h => (f6 h).below hb, f7, f8, f9⟩
    · simp at ho; subst ho
      simp [opRun, execOp, go_sem]
      refine ⟨f0.alloc _, f1, fun h => (f2 h).alloc _, f3, fun h => (f4 h).alloc _, fun _ => FrB.made f0.size _ _ _ (fun h => ?_), fun h => (f6 h).alloc _, fun _ h => (f6 h).ne_made.symm, fun _ => rfl, f9⟩
      have := f8 h
      rw [hDi] at this; cases this
    · simp at ho; subst ho
      simp [opRun, execOp, go_sem]
      refine ⟨f0.alloc _, f1, fun h => (f2 h).alloc _, f3, fun h => (f4 h).alloc _, fun h => (f5 h).alloc _, fun _ => FrB.made f0.size _ _ _ (fun h => ?_), fun h _ => (f5 h).ne_made, f8, fun _ => rfl⟩
      have := f9 h
      rw [hDi] at this; cases this
    · simp at ho; subst ho
      simp [Region.binds] at hpre
      have d4 : D 4 = true := (by first | exact hpre | exact hpre.1 | exact hpre.2 | exact hpre.2.1 | exact hpre.2.2 | exact hpre.2.2.1 | exact hpre.2.2.2 | exact hpre.2.2.2.1 | exact hpre.2.2.2.2)
      have d1 : D 1 = true := (by first | exact hpre | exact hpre.1 | exact hpre.2 | exact hpre.2.1 | exact hpre.2.2 | exact hpre.2.2.1 | exact hpre.2.2.2 | exact hpre.2.2.2.1 | exact hpre.2.2.2.2)
      obtain ⟨b, e6, hb6, hh, hfull⟩ := f5 d4
      obtain ⟨x1, x2, e18, n1, n2⟩ := f2 d1
      obtain ⟨q1, r1, s1⟩ := n1.shape
      obtain ⟨q2, r2, s2⟩ := n2.shape
      subst s1 s2
      have m0 := hh.cell 0 (by omega)
      have m1 := hh.cell 1 (by omega)
      have m2 := hh.cell 2 (by omega)
      have m3 := hh.free 0
      have m4 := hh.free 1
      have m5 := hh.free 2
      simp [opRun, execOp, evalV, e6, e18, go_sem, m0, m1, m2, m3, m4, m5]
      refine ⟨f0.set3 hb6 _ _ _, f1, fun h => (f2 h).set3 hh _, f3, fun h => (f4 h).set3 hh _, fun _ => ?_, fun h => (f6 h).set3o hh (fun e => f7 d4 h (by rw [e6, e])) _, f7, fun _ => d4, f9⟩
      have := f5 d4
      rw [e6] at this
      rw [show V 6 = _ from e6]
      exact this.set3 n1 n2
    · simp at ho; subst ho
      simp [Region.binds] at hpre
      have d5 : D 5 = true := (by first | exact hpre | exact hpre.1 | exact hpre.2 | exact hpre.2.1 | exact hpre.2.2 | exact hpre.2.2.1 | exact hpre.2.2.2 | exact hpre.2.2.2.1 | exact hpre.2.2.2.2)
      have d3 : D 3 = true := (by first | exact hpre | exact hpre.1 | exact hpre.2 | exact hpre.2.1 | exact hpre.2.2 | exact hpre.2.2.1 | exact hpre.2.2.2 | exact hpre.2.2.2.1 | exact hpre.2.2.2.2)
      obtain ⟨b, e7, hb7, hh, hfull⟩ := f6 d5
      obtain ⟨x1, x2, e20, n1, n2⟩ := f4 d3
      obtain ⟨q1, r1, s1⟩ := n1.shape
      obtain ⟨q2, r2, s2⟩ := n2.shape
      subst s1 s2
      have m0 := hh.cell 0 (by omega)
      have m1 := hh.cell 1 (by omega)
      have m2 := hh.cell 2 (by omega)
      have m3 := hh.free 0
      have m4 := hh.free 1
      have m5 := hh.free 2
      simp [opRun, execOp, evalV, e7, e20, go_sem, m0, m1, m2, m3, m4, m5]
      refine ⟨f0.set3 hb7 _ _ _, f1, fun h => (f2 h).set3 hh _, f3, fun h => (f4 h).set3 hh _, fun h => (f5 h).set3o hh (fun e => f7 h d5 (by rw [e7, e])) _, fun _ => ?_, f7, f8, fun _ => d5⟩
      have := f6 d5
      rw [e7] at this
      rw [show V 7 = _ from e7]
      exact this.set3 n1 n2
    · simp at ho
  · intro D V w' hF hall
    obtain ⟨f0, f1, f2, f3, f4, f5, f6, f7, f8, f9⟩ := hF
    obtain ⟨bx, e6, hbx, _, hx⟩ := f5 (hall 4 (by decide))
    obtain ⟨bY, e7, hby, _, hy⟩ := f6 (hall 5 (by decide))
    obtain ⟨x1, x2, hbx1, nx1, nx2⟩ := hx (hall 6 (by decide))
    obtain ⟨y1, y2, hby1, ny1, ny2⟩ := hy (hall 7 (by decide))
    have e17 := f1 (hall 0 (by decide))
    have e19 := f3 (hall 2 (by decide))
    obtain ⟨v18, e18⟩ : ∃ v, v = V 18 := ⟨_, rfl⟩
    obtain ⟨v20, e20⟩ : ∃ v, v = V 20 := ⟨_, rfl⟩
    simp only [putAll, List.foldl_cons, List.foldl_nil, e6, e7, e17, e19, ← e18, ← e20]
    clear f1 f2 f3 f4 f5 f6 f7 f8 f9 hall hx hy e6 e7 e17 e19 e18 e20 hS
    simp only [Int.natAbs_natCast] at nx2 ny2
    obtain ⟨q1, r1, s1⟩ := nx1.shape
    obtain ⟨q2, r2, s2⟩ := nx2.shape
    obtain ⟨q3, r3, s3⟩ := ny1.shape
    obtain ⟨q4, r4, s4⟩ := ny2.shape
    have hl1 := natAbs_len an han
    have hl2 := nat_len ad (by omega)
    have hl3 := natAbs_len bn hbn
    have hl4 := nat_len bd (by omega)
    have hpl1 := digs_length_mul W32 W32_ge an.natAbs bn.natAbs
    have hpl2 := digs_length_mul W32 W32_ge ad bd
    obtain ⟨L1, hL1⟩ : ∃ l, l = (digs W32 an.natAbs).length := ⟨_, rfl⟩
    obtain ⟨L2, hL2⟩ : ∃ l, l = (digs W32 ad).length := ⟨_, rfl⟩
    obtain ⟨L3, hL3⟩ : ∃ l, l = (digs W32 bn.natAbs).length := ⟨_, rfl⟩
    obtain ⟨L4, hL4⟩ : ∃ l, l = (digs W32 bd).length := ⟨_, rfl⟩
    rw [← hL1] at s1; rw [← hL2] at s2; rw [← hL3] at s3; rw [← hL4] at s4
    subst s1 s2 s3 s4
    clear hL1 hL2 hL3 hL4
    have hdp : 0 < ad * bd := Nat.mul_pos (by omega) (by omega)
    have M1 := Lib.hid (fun wx h1 h2 => mul_any (.slice q1 L1 r1) (.slice q3 L3 r3) an.natAbs bn.natAbs wx h1 h2 (by omega) (by omega))
    have M2 := Lib.hid (fun wx h1 h2 => mul_any (.slice q2 L2 r2) (.slice q4 L4 r4) ad bd wx h1 h2 (by omega) (by omega))
    have e1 : mulS an ad bn bd = ratioS (decide (an < 0) != decide (bn < 0)) (an.natAbs * bn.natAbs) (ad * bd) := by
      unfold mulS; rw [hva.out, hvb.out]; rfl
    rw [bne_form] at e1
    have HE := Lib.hid e1
    obtain ⟨P1, hP1⟩ : ∃ p, p = an.natAbs * bn.natAbs := ⟨_, rfl⟩
    obtain ⟨P2, hP2⟩ : ∃ p, p = ad * bd := ⟨_, rfl⟩
    rw [← hP1] at M1 HE hpl1
    rw [← hP2] at M2 HE hpl2 hdp
    have RAT := Lib.hid (fun v wx h => ratio_any v (!decide (an < 0) == decide (bn < 0)) P1 P2 wx h (by omega) (by omega) hdp)
    have hT : MuT w bx bY (decide (an < 0)) (.slice q1 L1 r1) (.slice q2 L2 r2) (decide (bn < 0)) (.slice q3 L3 r3) (.slice q4 L4 r4) w' := ⟨f0.1, hbx1, hby1, hbx, hby⟩
    have hTd : MuT w bx bY (decide (an < 0)) (.slice q1 L1 r1) (.slice q2 L2 r2) (decide (bn < 0)) (.slice q3 L3 r3) (.slice q4 L4 r4) w'.drew := ⟨f0.1.drew, hbx1, hby1, hbx, hby⟩
    have hbd : Below w'.heap.size w' w'.drew := (Below.refl _ _).drew
    have fd := f0.step hbd
    obtain ⟨_, c1, c2, c3, c4, c5, c6⟩ := hT.all
    clear hP1 hP2 e1 hpl1 hpl2 hl1 hl2 hl3 hl4 hdp hbx1 hby1 CA CB
    simp only [Act.put, List.setIfInBounds_toArray, List.set_cons_succ, List.set_cons_zero]
    go_wp2
    go_region_held3 (fun wz => MuT w bx bY (decide (an < 0)) (.slice q1 L1 r1) (.slice q2 L2 r2) (decide (bn < 0)) (.slice q3 L3 r3) (.slice q4 L4 r4) wz ∧ wz.cell? ⟨bx, 0, none⟩ = some (.bool (decide (an < 0))) ∧ wz.cell? ⟨bx, 1, none⟩ = some (.slice q1 L1 r1) ∧ wz.cell? ⟨bx, 2, none⟩ = some (.slice q2 L2 r2) ∧ wz.cell? ⟨bY, 0, none⟩ = some (.bool (decide (bn < 0))) ∧ wz.cell? ⟨bY, 1, none⟩ = some (.slice q3 L3 r3) ∧ wz.cell? ⟨bY, 2, none⟩ = some (.slice q4 L4 r4)) (first | exact MuT.all (by assumption) | exact MuT.all (((by assumption : MuT w bx bY (decide (an < 0)) (.slice q1 L1 r1) (.slice q2 L2 r2) (decide (bn < 0)) (.slice q3 L3 r3) (.slice q4 L4 r4) _).st _ _).st _ _))
      (first
        | (go_at_call 32; (with_reducible refine (M1.out _ (nx1.below hbd) (ny1.below hbd)).mono ?_); rintro e w1 ⟨v1, rfl, hv1, hb1⟩; have hT1 := MuT.step hb1 hTd; have g1 := fd.step hb1; have hbw1 := hbd.trans hb1; obtain ⟨q5, r5, s5⟩ := hv1.shape; subst s5)
        | (go_at_call 32; (with_reducible refine (M2.out _ (nx2.below hbw1) (ny2.below hbw1)).mono ?_); rintro e w2 ⟨v2, rfl, hv2, hb2⟩; have hT2 := MuT.step hb2 hT1; have g2 := g1.step hb2; have hv1' := hv1.below hb2; obtain ⟨q6, r6, s6⟩ := hv2.shape; subst s6)
        | (go_at_call 22; (with_reducible refine (RAT.out _ _ (FracV.of_pair hv1' hv2)).mono ?_); rintro e w3 ⟨he, hb3⟩; have hT3 := MuT.step hb3 hT2; have g3 := g2.step hb3; obtain ⟨z1, z2, z3, hz9, he'⟩ := RatE_cases he; subst he'; have hcs := g3.cells; obtain ⟨m1, m2, m3, m4, m5, m6, m7, m8⟩ := hcs))
    clear c1 c2 c3 c4 c5 c6
    go_wp2
    obtain ⟨m1, m2, m3, m4, m5, m6, m7, m8⟩ := g3.cells
    refine bodyPost_ret (v := .tuple #[.agg #[.int .i64 z1, .int .i64 z2], .int .i64 z3]) (by simp [results, Tryd.results12, go_sem, m5, m6]) rfl ⟨?_, (g3.1.setCell (by simp; omega) _).setCell (by simp; omega) _⟩
    rw [HE.out, ← hz9]
    rfl

theorem mul_ratio (an ad bn bd : Int) (w : World) (han : I64 an) (had : I64 ad) (hbn : I64 bn) (hbd : I64 bd) :
    Calls Tryd.prog 12 #[.agg #[.int .i64 an, .int .i64 ad], .agg #[.int .i64 bn, .int .i64 bd]] w fun e w' => e = RatE (mulS an ad bn bd) ∧ Below w.heap.size w w' := by
  rcases Bool.eq_false_or_eq_true (validB an ad) with hva | hva
  · rcases Bool.eq_false_or_eq_true (validB bn bd) with hvb | hvb
    · obtain ⟨a1, _⟩ := validB_true hva
      obtain ⟨b1, _⟩ := validB_true hvb
      obtain ⟨x, rfl⟩ : ∃ x : Nat, ad = x := ⟨ad.toNat, by omega⟩
      obtain ⟨y, rfl⟩ : ∃ y : Nat, bd = y := ⟨bd.toNat, by omega⟩
      exact mulS_ok an x bn y w han had hbn hbd hva hvb
    · have e : mulS an ad bn bd = (0, 0, 1) := by unfold mulS; rw [hva, hvb]; rfl
      rw [e]; exact mulS_eb an ad bn bd w han had hbn hbd hva hvb
  · have e : mulS an ad bn bd = (0, 0, 1) := by unfold mulS; rw [hva]; rfl
    rw [e]; exact mulS_ea an ad bn bd w han had hbn hbd hva

end Go.Proofs.YtpjjbdpkhmeldaaDoor
