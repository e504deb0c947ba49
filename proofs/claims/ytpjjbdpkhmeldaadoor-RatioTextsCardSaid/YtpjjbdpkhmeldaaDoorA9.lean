/- contracts of ratio's (fraction).add -/
import Derived.Test.YtpjjbdpkhmeldaaDoorA8
import Derived.Deep.DeepCutAuto
namespace Go.Proofs.YtpjjbdpkhmeldaaDoor
open Go.RowKit

theorem alloc_size (w : World) (o : Obj) : (w.alloc o).heap.size = w.heap.size + 1 := by simp

theorem Has.alloc {w : World} {b : Nat} {T : TypeId} {n : Nat} (h : Has w b T n) (o : Obj) : Has (w.alloc o) b T n := by
  obtain ⟨cs, hl, hn, h⟩ := h
  exact ⟨cs, hl, hn, h.alloc o⟩

/-- two boxes of fractions, and a result -/
def AdS (w : World) (g1 g2 : Bool) (a1 a2 b1 b2 : Value) (w' : World) : Prop :=
  Below w.heap.size w w' ∧ Box w' w.heap.size 46 [.bool g1, a1, a2] ∧ Box w' (w.heap.size + 1) 46 [.bool g2, b1, b2] ∧ Has w' (w.heap.size + 2) 46 3
theorem AdS.step {w : World} {g1 g2 : Bool} {a1 a2 b1 b2 : Value} {w1 w2 : World} (hb : Below w1.heap.size w1 w2) (h : AdS w g1 g2 a1 a2 b1 b2 w1) : AdS w g1 g2 a1 a2 b1 b2 w2 := by
  obtain ⟨h1, h2, h3, h4⟩ := h
  exact ⟨h1.trans (hb.mono h1.size), h2.below hb, h3.below hb, h4.below hb⟩
theorem AdS.drew {w : World} {g1 g2 : Bool} {a1 a2 b1 b2 : Value} {w1 : World} (h : AdS w g1 g2 a1 a2 b1 b2 w1) : AdS w g1 g2 a1 a2 b1 b2 w1.drew := ⟨h.1.drew, h.2.1, h.2.2.1, h.2.2.2⟩
theorem AdS.all {w : World} {g1 g2 : Bool} {a1 a2 b1 b2 : Value} {w' : World} (h : AdS w g1 g2 a1 a2 b1 b2 w') :
    AdS w g1 g2 a1 a2 b1 b2 w' ∧ w'.cell? ⟨w.heap.size, 0, none⟩ = some (.bool g1) ∧ w'.cell? ⟨w.heap.size, 1, none⟩ = some a1 ∧ w'.cell? ⟨w.heap.size, 2, none⟩ = some a2 ∧
    w'.cell? ⟨w.heap.size + 1, 0, none⟩ = some (.bool g2) ∧ w'.cell? ⟨w.heap.size + 1, 1, none⟩ = some b1 ∧ w'.cell? ⟨w.heap.size + 1, 2, none⟩ = some b2 :=
  ⟨h, h.2.1.cell 0 _ rfl, h.2.1.cell 1 _ rfl, h.2.1.cell 2 _ rfl, h.2.2.1.cell 0 _ rfl, h.2.2.1.cell 1 _ rfl, h.2.2.1.cell 2 _ rfl⟩

theorem AdS.al {w : World} {g1 g2 : Bool} {a1 a2 b1 b2 : Value} {w1 : World} (h : AdS w g1 g2 a1 a2 b1 b2 w1) (o : Obj) : AdS w g1 g2 a1 a2 b1 b2 (w1.alloc o) :=
  ⟨h.1.alloc h.1.size _, h.2.1.alloc _, h.2.2.1.alloc _, h.2.2.2.alloc _⟩
theorem AdS.size {w : World} {g1 g2 : Bool} {a1 a2 b1 b2 : Value} {w1 : World} (h : AdS w g1 g2 a1 a2 b1 b2 w1) : w.heap.size + 2 < w1.heap.size := by
  obtain ⟨cs, _, _, hb⟩ := h.2.2.2
  exact hb.lt
theorem AdS.stn {w : World} {g1 g2 : Bool} {a1 a2 b1 b2 : Value} {w1 : World} (h : AdS w g1 g2 a1 a2 b1 b2 w1) (b i : Nat) (hb : w.heap.size + 2 < b) (v : Value) : AdS w g1 g2 a1 a2 b1 b2 (w1.setCell ⟨b, i, none⟩ v) := by
  obtain ⟨h1, h2, h3, cs, h4, h5, h6⟩ := h
  exact ⟨h1.setCell (by simp; omega) _, h2.other (by omega) _ _, h3.other (by omega) _ _, cs, h4, h5, h6.other (by omega) _ _⟩

/-- the sum of two fractions -/
def plusS (g1 : Bool) (m1 n1 : Nat) (g2 : Bool) (m2 n2 : Nat) : Bool × Nat × Nat :=
  if g1 = g2 then (g1, m1 * n2 + m2 * n1, n1 * n2) else if m2 * n1 ≤ m1 * n2 then (g1, m1 * n2 - m2 * n1, n1 * n2) else (g2, m2 * n1 - m1 * n2, n1 * n2)

theorem AdS.res {w : World} {g1 g2 : Bool} {a1 a2 b1 b2 : Value} {w' : World} (h : AdS w g1 g2 a1 a2 b1 b2 w') :
    w'.cell? ⟨w.heap.size + 1 + 1, 0, none⟩ = some (cellD w' ⟨w.heap.size + 2, 0, none⟩) ∧ w'.cell? ⟨w.heap.size + 1 + 1, 1, none⟩ = some (cellD w' ⟨w.heap.size + 2, 1, none⟩) ∧ w'.cell? ⟨w.heap.size + 1 + 1, 2, none⟩ = some (cellD w' ⟨w.heap.size + 2, 2, none⟩) ∧
    w'.frozen? ⟨w.heap.size + 1 + 1, 0, none⟩ = false ∧ w'.frozen? ⟨w.heap.size + 1 + 1, 1, none⟩ = false ∧ w'.frozen? ⟨w.heap.size + 1 + 1, 2, none⟩ = false :=
  ⟨h.2.2.2.cell 0 (by omega), h.2.2.2.cell 1 (by omega), h.2.2.2.cell 2 (by omega), h.2.2.2.free 0, h.2.2.2.free 1, h.2.2.2.free 2⟩

/-- the last step: the result is laid -/
theorem AdS.fin {w : World} {g1 g2 : Bool} {a1 a2 b1 b2 : Value} {wz : World} (h : AdS w g1 g2 a1 a2 b1 b2 wz) (g : Bool) {ao lo co ap lp cp : _} {p n : Nat} (hp : NatV wz .u32 W32 (.slice ao lo co) p) (hn : NatV wz .u32 W32 (.slice ap lp cp) n) :
    FracV (((wz.setCell ⟨w.heap.size + 1 + 1, 0, none⟩ (.bool g)).setCell ⟨w.heap.size + 1 + 1, 1, none⟩ (.slice ao lo co)).setCell ⟨w.heap.size + 1 + 1, 2, none⟩ (.slice ap lp cp)) (.agg #[.bool g, .slice ao lo co, .slice ap lp cp]) g p n ∧
    Below w.heap.size w (((wz.setCell ⟨w.heap.size + 1 + 1, 0, none⟩ (.bool g)).setCell ⟨w.heap.size + 1 + 1, 1, none⟩ (.slice ao lo co)).setCell ⟨w.heap.size + 1 + 1, 2, none⟩ (.slice ap lp cp)) :=
  ⟨⟨_, _, rfl, h.2.2.2.nat hp _ _ _ (by simp) (by simp), h.2.2.2.nat hn _ _ _ (by simp) (by simp)⟩, ((h.1.setCell (by simp; omega) _).setCell (by simp; omega) _).setCell (by simp; omega) _⟩

/-- what the second statement leaves -/
def FaC (w : World) (g1 g2 : Bool) (a1 a2 b1 b2 : Value) (p q n : Nat) (vp vq : Value) (s7 : Value) (wz : World) : Prop :=
  ∃ bo v3, s7 = .pointer (some ⟨bo, 0, none⟩) ∧ w.heap.size + 2 < bo ∧ AdS w g1 g2 a1 a2 b1 b2 wz ∧ Box wz bo 46 [.bool g1, .slice none 0 0, v3] ∧ NatV wz .u32 W32 v3 n ∧ NatV wz .u32 W32 vp p ∧ NatV wz .u32 W32 vq q

theorem NatV.box {w : World} {v : Value} {n : Nat} (h : NatV w .u32 W32 v n) {b : Nat} {T : TypeId} {cs : List Value} (hb : Box w b T cs) (hn : ∀ (i : Nat) (m : Int), cs[i]? ≠ some (.int .u32 m)) (i : Nat) (u : Value) : NatV (w.setCell ⟨b, i, none⟩ u) .u32 W32 v n :=
  h.set ⟨cs, rfl, hn, hb⟩ i u

theorem nodig3 {g : Bool} {a1 l1 c1 a2 l2 c2} : ∀ (i : Nat) (m : Int), [Value.bool g, Value.slice a1 l1 c1, Value.slice a2 l2 c2][i]? ≠ some (.int .u32 m) := by
  intro i m
  rcases i with _ | _ | _ | i <;> simp

theorem FaC.mk {w : World} {g1 g2 : Bool} {a1 a2 b1 b2 : Value} {p q n : Nat} {vp vq : Value} {bo : Nat} {wz : World} {ao lo co : _} (h1 : w.heap.size + 2 < bo) (h2 : AdS w g1 g2 a1 a2 b1 b2 wz) (h3 : Box wz bo 46 [.bool false, .slice none 0 0, .slice none 0 0])
    (hn : NatV wz .u32 W32 (.slice ao lo co) n) (hp : NatV wz .u32 W32 vp p) (hq : NatV wz .u32 W32 vq q) :
    FaC w g1 g2 a1 a2 b1 b2 p q n vp vq (.pointer (some ⟨bo, 0, none⟩)) (((wz.setCell ⟨bo, 0, none⟩ (.bool g1)).setCell ⟨bo, 1, none⟩ (.slice none 0 0)).setCell ⟨bo, 2, none⟩ (.slice ao lo co)) := by
  have k1 := h3.set 0 (.bool g1)
  have k2 := k1.set 1 (.slice none 0 0)
  have k3 := k2.set 2 (.slice ao lo co)
  refine ⟨bo, _, rfl, h1, ((h2.stn bo 0 h1 _).stn bo 1 h1 _).stn bo 2 h1 _, k3, ?_, ?_, ?_⟩
  · exact ((hn.box h3 nodig3 0 _).box k1 nodig3 1 _).box k2 nodig3 2 _
  · exact ((hp.box h3 nodig3 0 _).box k1 nodig3 1 _).box k2 nodig3 2 _
  · exact ((hq.box h3 nodig3 0 _).box k1 nodig3 1 _).box k2 nodig3 2 _

theorem FaC.mk2 {w : World} {g1 g2 : Bool} {a1 a2 b1 b2 : Value} {p q n : Nat} {vp vq : Value} {wz : World} {ao lo co : _} (h2 : AdS w g1 g2 a1 a2 b1 b2 wz)
    (hn : NatV wz .u32 W32 (.slice ao lo co) n) (hp : NatV wz .u32 W32 vp p) (hq : NatV wz .u32 W32 vq q) :
    FaC w g1 g2 a1 a2 b1 b2 p q n vp vq (.pointer (some ⟨wz.heap.size, 0, none⟩)) (wz.alloc (Obj.cells #[.bool g1, .slice none 0 0, .slice ao lo co] 46)) := by
  have hb : Below wz.heap.size wz (wz.alloc (Obj.cells #[.bool g1, .slice none 0 0, .slice ao lo co] 46)) := (Below.refl _ _).alloc (Nat.le_refl _) _
  exact ⟨_, _, rfl, h2.size, h2.al _, Box.made wz 46 _, hn.below hb, hp.below hb, hq.below hb⟩

set_option maxHeartbeats 2000000 in
theorem fadd_any (va vb : Value) (g1 g2 : Bool) (m1 n1 m2 n2 : Nat) (w : World) (ha : FracV w va g1 m1 n1) (hb : FracV w vb g2 m2 n2) (hm1 : (digs W32 m1).length ≤ 4000) (hn1 : (digs W32 n1).length ≤ 4000) (hm2 : (digs W32 m2).length ≤ 4000) (hn2 : (digs W32 n2).length ≤ 4000) :
    Calls Tryd.prog 31 #[va, vb] w fun e w' => ∃ v, e = .returned v ∧ FracV w' v (plusS g1 m1 n1 g2 m2 n2).1 (plusS g1 m1 n1 g2 m2 n2).2.1 (plusS g1 m1 n1 g2 m2 n2).2.2 ∧ Below w.heap.size w w' := by
  obtain ⟨x1, x2, rfl, a1, a2⟩ := ha
  obtain ⟨y1, y2, rfl, b1, b2⟩ := hb
  have hS0 : AdS w g1 g2 x1 x2 y1 y2 (((w.alloc (Obj.cells #[.bool g1, x1, x2] 46)).alloc (Obj.cells #[.bool g2, y1, y2] 46)).alloc (Obj.cells #[.bool false, .slice none 0 0, .slice none 0 0] 46)) := by
    have e1 := Box.made w 46 [.bool g1, x1, x2]
    have e2 := Box.made (w.alloc (Obj.cells #[.bool g1, x1, x2] 46)) 46 [.bool g2, y1, y2]
    have e3 := Box.made ((w.alloc (Obj.cells #[.bool g1, x1, x2] 46)).alloc (Obj.cells #[.bool g2, y1, y2] 46)) 46 [.bool false, .slice none 0 0, .slice none 0 0]
    rw [alloc_size] at e2
    rw [alloc_size, alloc_size] at e3
    refine ⟨(((Below.refl _ _).alloc (Nat.le_refl _) _).alloc (by simp) _).alloc (by simp; omega) _, (e1.alloc _).alloc _, e2.alloc _, _, rfl, ?_, e3⟩
    intro i m
    rcases i with _ | _ | _ | i <;> simp
  obtain ⟨p1, c1, e1⟩ := a1.shape
  obtain ⟨p2, c2, e2⟩ := a2.shape
  obtain ⟨p3, c3, e3⟩ := b1.shape
  obtain ⟨p4, c4, e4⟩ := b2.shape
  subst e1 e2 e3 e4
  obtain ⟨l1, hl1⟩ : ∃ l, l = (digs W32 m1).length := ⟨_, rfl⟩
  obtain ⟨l2, hl2⟩ : ∃ l, l = (digs W32 n1).length := ⟨_, rfl⟩
  obtain ⟨l3, hl3⟩ : ∃ l, l = (digs W32 m2).length := ⟨_, rfl⟩
  obtain ⟨l4, hl4⟩ : ∃ l, l = (digs W32 n2).length := ⟨_, rfl⟩
  rw [← hl1] at a1; rw [← hl2] at a2; rw [← hl3] at b1; rw [← hl4] at b2
  rw [← hl1, ← hl2, ← hl3, ← hl4] at hS0
  rw [← hl1, ← hl2, ← hl3, ← hl4]
  clear hl1 hl2 hl3 hl4
  go_enter Tryd.func31, Tryd.ntmps31
  go_wp2
  obtain ⟨w0, hw0⟩ : ∃ w0, w0 = (((w.alloc (Obj.cells #[.bool g1, .slice p1 l1 c1, .slice p2 l2 c2] 46)).alloc (Obj.cells #[.bool g2, .slice p3 l3 c3, .slice p4 l4 c4] 46)).alloc (Obj.cells #[.bool false, .slice none 0 0, .slice none 0 0] 46)) := ⟨_, rfl⟩
  rw [← hw0] at hS0
  rw [← hw0]
  clear hw0
  have hS1 := hS0.drew
  have C1 := Lib.hid (fun (wx : World) (h : AdS w g1 g2 (.slice p1 l1 c1) (.slice p2 l2 c2) (.slice p3 l3 c3) (.slice p4 l4 c4) wx) => mul_any (.slice p1 l1 c1) (.slice p4 l4 c4) m1 n2 wx (a1.below h.1) (b2.below h.1) (by omega) (by omega))
  have C2 := Lib.hid (fun (wx : World) (h : AdS w g1 g2 (.slice p1 l1 c1) (.slice p2 l2 c2) (.slice p3 l3 c3) (.slice p4 l4 c4) wx) => mul_any (.slice p3 l3 c3) (.slice p2 l2 c2) m2 n1 wx (b1.below h.1) (a2.below h.1) (by omega) (by omega))
  have C3 := Lib.hid (fun (wx : World) (h : AdS w g1 g2 (.slice p1 l1 c1) (.slice p2 l2 c2) (.slice p3 l3 c3) (.slice p4 l4 c4) wx) => mul_any (.slice p2 l2 c2) (.slice p4 l4 c4) n1 n2 wx (a2.below h.1) (b2.below h.1) (by omega) (by omega))
  obtain ⟨_, hc0, hc1, hc2, hc3, hc4, hc5⟩ := hS0.all
  go_region_held3 (fun w' => AdS w g1 g2 (.slice p1 l1 c1) (.slice p2 l2 c2) (.slice p3 l3 c3) (.slice p4 l4 c4) w' ∧ w'.cell? ⟨w.heap.size, 0, none⟩ = some (.bool g1) ∧ w'.cell? ⟨w.heap.size, 1, none⟩ = some (.slice p1 l1 c1) ∧ w'.cell? ⟨w.heap.size, 2, none⟩ = some (.slice p2 l2 c2) ∧ w'.cell? ⟨w.heap.size + 1, 0, none⟩ = some (.bool g2) ∧ w'.cell? ⟨w.heap.size + 1, 1, none⟩ = some (.slice p3 l3 c3) ∧ w'.cell? ⟨w.heap.size + 1, 2, none⟩ = some (.slice p4 l4 c4)) (first | exact AdS.all (by assumption))
    (first
      | (go_at_call 32; (with_reducible refine (C1.out _ ?_).mono ?_); (first | assumption | skip); rintro e w1 ⟨v1, rfl, hv1, hb1⟩; have hS1 := AdS.step hb1 (by assumption))
      | (go_at_call 32; (with_reducible refine (C2.out _ ?_).mono ?_); (first | assumption | skip); rintro e w2 ⟨v2, rfl, hv2, hb2⟩; have hS1 := AdS.step hb2 (by assumption)))
  have hv1' := hv1.below hb2
  have hS2 : AdS w g1 g2 (.slice p1 l1 c1) (.slice p2 l2 c2) (.slice p3 l3 c3) (.slice p4 l4 c4) w2 := by assumption
  obtain ⟨wa, hwa⟩ : ∃ wa, wa = w2 := ⟨_, rfl⟩
  rw [← hwa] at hv1' hv2 hS2
  rw [← hwa]
  clear hS0 hS1 hc0 hc1 hc2 hc3 hc4 hc5 hv1 hb1 hb2 C1 C2 hwa
  obtain ⟨q1, d1, e1⟩ := hv1'.shape
  obtain ⟨q2, d2, e2⟩ := hv2.shape
  subst e1 e2
  go_upto_region 2 with fail
  go_cut [7] (fun s7 wx => FaC w g1 g2 (.slice p1 l1 c1) (.slice p2 l2 c2) (.slice p3 l3 c3) (.slice p4 l4 c4) (m1 * n2) (m2 * n1) (n1 * n2) (.slice q1 (digs W32 (m1 * n2)).length d1) (.slice q2 (digs W32 (m2 * n1)).length d2) s7 wx)
  case first =>
    have hbx : Box (wa.alloc (Obj.cells #[.bool false, .slice none 0 0, .slice none 0 0] 46)).drew wa.heap.size 46 [.bool false, .slice none 0 0, .slice none 0 0] := Box.made wa 46 _
    have hSd := hS2.drew
    have hSa := (hS2.al (Obj.cells #[.bool false, .slice none 0 0, .slice none 0 0] 46)).drew
    have hsz := hS2.size
    obtain ⟨_, hc0, hc1, hc2, hc3, hc4, hc5⟩ := hS2.all
    have hbA : Below wa.heap.size wa (wa.alloc (Obj.cells #[.bool false, .slice none 0 0, .slice none 0 0] 46)).drew := ((Below.refl _ _).alloc (Nat.le_refl _) _).drew
    have hbD : Below wa.heap.size wa wa.drew := (Below.refl _ _).drew
    have hv1a := hv1'.below hbA
    have hv2a := hv2.below hbA
    go_region_held3 (fun w' => AdS w g1 g2 (.slice p1 l1 c1) (.slice p2 l2 c2) (.slice p3 l3 c3) (.slice p4 l4 c4) w' ∧ w'.cell? ⟨w.heap.size, 0, none⟩ = some (.bool g1) ∧ w'.cell? ⟨w.heap.size, 1, none⟩ = some (.slice p1 l1 c1) ∧ w'.cell? ⟨w.heap.size, 2, none⟩ = some (.slice p2 l2 c2) ∧ w'.cell? ⟨w.heap.size + 1, 0, none⟩ = some (.bool g2) ∧ w'.cell? ⟨w.heap.size + 1, 1, none⟩ = some (.slice p3 l3 c3) ∧ w'.cell? ⟨w.heap.size + 1, 2, none⟩ = some (.slice p4 l4 c4)) (first | exact AdS.all (by assumption) | exact AdS.all (AdS.al (by assumption) _) | exact AdS.all ((((by assumption : AdS w g1 g2 (.slice p1 l1 c1) (.slice p2 l2 c2) (.slice p3 l3 c3) (.slice p4 l4 c4) _).stn wa.heap.size 0 hsz _).stn wa.heap.size 1 hsz _).stn wa.heap.size 2 hsz _) | exact AdS.all ((((AdS.al hS3 _).stn _ 0 hS3.size _).stn _ 1 hS3.size _).stn _ 2 hS3.size _))
      (first
        | (go_at_call 32; (with_reducible refine (C3.out _ hSa).mono ?_); rintro e w3 ⟨v3, rfl, hv3, hb3⟩; have hS3 := AdS.step hb3 hSa; obtain ⟨q3, d3, e3⟩ := hv3.shape; subst e3; have hbx3 := hbx.below hb3; have k0 := hbx3.cell 0 _ rfl; have k1 := hbx3.cell 1 _ rfl; have k2 := hbx3.cell 2 _ rfl; have k3 := hbx3.free 0; have k4 := hbx3.free 1; have k5 := hbx3.free 2; have hv1b := hv1a.below hb3; have hv2b := hv2a.below hb3)
        | (go_at_call 32; (with_reducible refine (C3.out _ hSd).mono ?_); rintro e w3 ⟨v3, rfl, hv3, hb3⟩; have hS3 := AdS.step hb3 hSd; obtain ⟨q3, d3, e3⟩ := hv3.shape; subst e3; have hbx3 := Box.made w3 46 [.bool false, .slice none 0 0, .slice none 0 0]; have hv1b := hv1'.below (hbD.trans hb3); have hv2b := hv2.below (hbD.trans hb3)))
    · go_wp2_with fail
      go_meet
      exact FaC.mk2 hS3 hv3 hv1b hv2b
    · go_wp2_with fail
      go_meet
      exact FaC.mk hsz hS3 hbx3 hv3 hv1b hv2b
  case rest =>
    clear C3
    obtain ⟨bo, v3, rfl, hbo, hA, hB, hn3, hp1, hp2⟩ := hcut
    obtain ⟨q3, d3, e3⟩ := hn3.shape
    subst e3
    obtain ⟨_, hc0, hc1, hc2, hc3, hc4, hc5⟩ := hA.all
    have hl1 : (digs W32 (m1 * n2)).length ≤ 8000 := Nat.le_trans (digs_length_mul W32 W32_ge m1 n2) (by omega)
    have hl2 : (digs W32 (m2 * n1)).length ≤ 8000 := Nat.le_trans (digs_length_mul W32 W32_ge m2 n1) (by omega)
    obtain ⟨p, hp⟩ : ∃ p, p = m1 * n2 := ⟨_, rfl⟩
    obtain ⟨q, hq⟩ : ∃ q, q = m2 * n1 := ⟨_, rfl⟩
    obtain ⟨r, hr⟩ : ∃ r, r = n1 * n2 := ⟨_, rfl⟩
    rw [← hp] at hp1 hl1
    rw [← hq] at hp2 hl2
    rw [← hr] at hn3 hB
    rw [← hp, ← hq]
    have HPL : Hid (plusS g1 m1 n1 g2 m2 n2 = if g1 = g2 then (g1, p + q, r) else if q ≤ p then (g1, p - q, r) else (g2, q - p, r)) := by
      show _ = _
      unfold plusS; rw [hp, hq, hr]
    clear hp hq hr a1 a2 b1 b2 hm1 hn1 hm2 hn2
    obtain ⟨la, hla⟩ : ∃ l, l = (digs W32 p).length := ⟨_, rfl⟩
    obtain ⟨lb, hlb⟩ : ∃ l, l = (digs W32 q).length := ⟨_, rfl⟩
    obtain ⟨lc, hlc⟩ : ∃ l, l = (digs W32 r).length := ⟨_, rfl⟩
    rw [← hla] at hp1
    rw [← hlb] at hp2
    rw [← hlc] at hn3 hB
    rw [← hla, ← hlb]
    clear hla hlb hlc
    by_cases hg : g1 = g2
    · subst hg
      have hgg : (g1 == g1) = true := by simp
      have e1 := HPL.out
      rw [if_pos rfl] at e1
      have HE := Lib.hid e1
      clear e1 HPL
      go_wp2_with fail
      refine (add_any _ _ p q wc hp1 hp2 (by omega) (by omega)).mono ?_
      rintro e w5 ⟨v5, rfl, hv5, hb5⟩
      obtain ⟨q5, d5, e5⟩ := hv5.shape
      subst e5
      have hA5 := hA.step hb5
      have hB5 := hB.below hb5
      have hn5 := hn3.below hb5
      have k0 := hB5.cell 0 _ rfl
      have k1 := hB5.cell 1 _ rfl
      have k2 := hB5.cell 2 _ rfl
      have k3 := hB5.free 1
      have hA6 := hA5.stn bo 1 hbo (.slice q5 (digs W32 (p + q)).length d5)
      have hv6 := hv5.box hB5 nodig3 1 (.slice q5 (digs W32 (p + q)).length d5)
      have hn6 := hn5.box hB5 nodig3 1 (.slice q5 (digs W32 (p + q)).length d5)
      obtain ⟨r0, r1, r2, f0, f1, f2⟩ := hA6.res
      have FIN := Lib.hid (hA6.fin g1 hv6 hn6)
      clear hc0 hc1 hc2 hc3 hc4 hc5 hA hB hA5 hB5 hn3 hn5 hv5 hp1 hp2 hb5 hA6 hv6 hn6
      go_wp2
      obtain ⟨f5, f6⟩ := FIN.out
      refine bodyPost_ret (v := .agg #[.bool g1, .slice q5 (digs W32 (p + q)).length d5, .slice q3 lc d3]) (by simp [results, Tryd.results31, go_sem, r0, r1, r2]) rfl ⟨_, rfl, ?_, f6⟩
      rw [HE.out]
      exact f5
    · have hgg : (g1 == g2) = false := by simpa using hg
      have hcmp := cmp_any (.slice q1 la d1) (.slice q2 lb d2) p q
      by_cases hqp : q ≤ p
      · have e1 := HPL.out
        rw [if_neg hg, if_pos hqp] at e1
        have HE := Lib.hid e1
        clear e1 HPL
        have hc0' : 0 ≤ cmpN p q := by unfold cmpN; rw [if_neg (by omega)]; split <;> omega
        go_wp2_with fail
        have hcm := hcmp wc hp1 hp2 (by omega) (by omega)
        obtain ⟨c, hc⟩ : ∃ c, c = cmpN p q := ⟨_, rfl⟩
        rw [← hc] at hcm hc0'
        clear hc hcmp
        refine hcm.mono ?_
        rintro e w4 ⟨rfl, hb4⟩
        have hA4 := hA.step hb4
        have hB4 := hB.below hb4
        have hn4 := hn3.below hb4
        have hp4 := hp1.below hb4
        have hq4 := hp2.below hb4
        obtain ⟨_, hc0, hc1, hc2, hc3, hc4, hc5⟩ := hA4.all
        clear hcm hA hB hn3 hp1 hp2 hb4
        go_wp2_with fail
        refine (sub_any _ _ p q w4 hp4 hq4 (by omega) hqp).mono ?_
        rintro e w5 ⟨v5, rfl, hv5, hb5⟩
        obtain ⟨q5, d5, e5⟩ := hv5.shape
        subst e5
        have hA5 := hA4.step hb5
        have hB5 := hB4.below hb5
        have hn5 := hn4.below hb5
        have k0 := hB5.cell 0 _ rfl
        have k1 := hB5.cell 1 _ rfl
        have k2 := hB5.cell 2 _ rfl
        have k3 := hB5.free 1
        have hA6 := hA5.stn bo 1 hbo (.slice q5 (digs W32 (p - q)).length d5)
        have hv6 := hv5.box hB5 nodig3 1 (.slice q5 (digs W32 (p - q)).length d5)
        have hn6 := hn5.box hB5 nodig3 1 (.slice q5 (digs W32 (p - q)).length d5)
        obtain ⟨r0, r1, r2, f0, f1, f2⟩ := hA6.res
        have FIN := Lib.hid (hA6.fin g1 hv6 hn6)
        clear hc0 hc1 hc2 hc3 hc4 hc5 hA4 hB4 hA5 hB5 hn4 hn5 hv5 hp4 hq4 hb5 hA6 hv6 hn6
        go_wp2
        obtain ⟨f5, f6⟩ := FIN.out
        refine bodyPost_ret (v := .agg #[.bool g1, .slice q5 (digs W32 (p - q)).length d5, .slice q3 lc d3]) (by simp [results, Tryd.results31, go_sem, r0, r1, r2]) rfl ⟨_, rfl, ?_, f6⟩
        rw [HE.out]
        exact f5
      · have e1 := HPL.out
        rw [if_neg hg, if_neg hqp] at e1
        have HE := Lib.hid e1
        clear e1 HPL
        have hc0' : cmpN p q < 0 := by unfold cmpN; rw [if_pos (by omega)]; omega
        go_wp2_with fail
        have hcm := hcmp wc hp1 hp2 (by omega) (by omega)
        obtain ⟨c, hc⟩ : ∃ c, c = cmpN p q := ⟨_, rfl⟩
        rw [← hc] at hcm hc0'
        clear hc hcmp
        refine hcm.mono ?_
        rintro e w4 ⟨rfl, hb4⟩
        have hA4 := (hA.step hb4).drew
        have hbd : Below w4.heap.size w4 w4.drew := (Below.refl _ _).drew
        have hB4 := (hB.below hb4).below hbd
        have hn4 := (hn3.below hb4).below hbd
        have hp4 := (hp1.below hb4).below hbd
        have hq4 := (hp2.below hb4).below hbd
        have C4 := Lib.hid (sub_any _ _ q p w4.drew hq4 hp4 (by omega) (by omega))
        obtain ⟨_, hc0, hc1, hc2, hc3, hc4, hc5⟩ := (hA.step hb4).all
        clear hcm hA hB hn3 hp1 hp2 hbd
        go_wp2
        go_region_held3 (fun w' => AdS w g1 g2 (.slice p1 l1 c1) (.slice p2 l2 c2) (.slice p3 l3 c3) (.slice p4 l4 c4) w' ∧ w'.cell? ⟨w.heap.size, 0, none⟩ = some (.bool g1) ∧ w'.cell? ⟨w.heap.size, 1, none⟩ = some (.slice p1 l1 c1) ∧ w'.cell? ⟨w.heap.size, 2, none⟩ = some (.slice p2 l2 c2) ∧ w'.cell? ⟨w.heap.size + 1, 0, none⟩ = some (.bool g2) ∧ w'.cell? ⟨w.heap.size + 1, 1, none⟩ = some (.slice p3 l3 c3) ∧ w'.cell? ⟨w.heap.size + 1, 2, none⟩ = some (.slice p4 l4 c4)) (first | exact AdS.all (by assumption) | exact AdS.all ((by assumption : AdS w g1 g2 (.slice p1 l1 c1) (.slice p2 l2 c2) (.slice p3 l3 c3) (.slice p4 l4 c4) _).stn bo _ hbo _) | exact AdS.all (((by assumption : AdS w g1 g2 (.slice p1 l1 c1) (.slice p2 l2 c2) (.slice p3 l3 c3) (.slice p4 l4 c4) _).stn bo _ hbo _).stn bo _ hbo _))
          (first
            | (go_at_call 50; (with_reducible refine C4.out.mono ?_); rintro e w5 ⟨v5, rfl, hv5, hb5⟩; obtain ⟨q5, d5, e5⟩ := hv5.shape; subst e5; have hA5 := hA4.step hb5; have hB5 := hB4.below hb5; have hn5 := hn4.below hb5; have k0 := hB5.cell 0 _ rfl; have k1 := hB5.cell 1 _ rfl; have k2 := hB5.cell 2 _ rfl; have k3 := hB5.free 1; have k4 := hB5.free 0))
        have hA6 := hA5.stn bo 1 hbo (.slice q5 (digs W32 (q - p)).length d5)
        have hB6 := hB5.set 1 (.slice q5 (digs W32 (q - p)).length d5)
        have hA7 := hA6.stn bo 0 hbo (.bool g2)
        have hv6 := (hv5.box hB5 nodig3 1 (.slice q5 (digs W32 (q - p)).length d5)).box hB6 nodig3 0 (.bool g2)
        have hn6 := (hn5.box hB5 nodig3 1 (.slice q5 (digs W32 (q - p)).length d5)).box hB6 nodig3 0 (.bool g2)
        obtain ⟨r0, r1, r2, f0, f1, f2⟩ := hA7.res
        have FIN := Lib.hid (hA7.fin g2 hv6 hn6)
        clear hc0 hc1 hc2 hc3 hc4 hc5 hA4 hB4 hA5 hB5 hn4 hn5 hv5 hp4 hq4 hb5 hA6 hA7 hv6 hn6 hB6 C4 hb4
        go_wp2
        obtain ⟨f5, f6⟩ := FIN.out
        refine bodyPost_ret (v := .agg #[.bool g2, .slice q5 (digs W32 (q - p)).length d5, .slice q3 lc d3]) (by simp [results, Tryd.results31, go_sem, r0, r1, r2]) rfl ⟨_, rfl, ?_, f6⟩
        rw [HE.out]
        exact f5

end Go.Proofs.YtpjjbdpkhmeldaaDoor
