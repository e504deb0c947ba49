/- contracts of the reference's wide, lowest, narrow -/
import Derived.Test.YtpjjbdpkhmeldaaDoorR4
import Derived.Test.YtpjjbdpkhmeldaaDoorL1
import Derived.Test.YtpjjbdpkhmeldaaDoorL3
namespace Go.Proofs.YtpjjbdpkhmeldaaDoor
open Go.RowKit

/-- a fraction of the reference in three cells -/
def FracR (w : World) (v : Value) (neg : Bool) (m n : Nat) : Prop := ∃ v1 v2, v = .agg #[.bool neg, v1, v2] ∧ NatV w .i64 R15 v1 m ∧ NatV w .i64 R15 v2 n

theorem FracR.below {w w' : World} {v : Value} {neg : Bool} {m n : Nat} (h : FracR w v neg m n) (hb : Below w.heap.size w w') : FracR w' v neg m n := by
  obtain ⟨v1, v2, e, h1, h2⟩ := h
  exact ⟨v1, v2, e, h1.below hb, h2.below hb⟩
theorem FracR.alloc {w1 : World} {v : Value} {neg : Bool} {m n : Nat} (h : FracR w1 v neg m n) (o : Obj) : FracR (w1.alloc o) v neg m n :=
  h.below ((Below.refl _ _).alloc (Nat.le_refl _) _)
theorem FracR.of_pair {w' : World} {g : Bool} {x y : Value} {m n : Nat} (hx : NatV w' .i64 R15 x m) (hy : NatV w' .i64 R15 y n) : FracR w' (.agg #[.bool g, x, y]) g m n := ⟨x, y, rfl, hx, hy⟩

/-- block b has n cells, none of which holds a digit -/
def HasR (w : World) (b : Nat) (T : TypeId) (n : Nat) : Prop := ∃ cs : List Value, cs.length = n ∧ (∀ (i : Nat) (m : Int), cs[i]? ≠ some (.int .i64 m)) ∧ Box w b T cs
theorem HasR.cell {w : World} {b : Nat} {T : TypeId} {n : Nat} (h : HasR w b T n) (i : Nat) (hi : i < n) : w.cell? ⟨b, i, none⟩ = some (cellD w ⟨b, i, none⟩) := by
  obtain ⟨cs, hl, hn, hb⟩ := h
  have := hb.cell i (cs[i]'(by omega)) (List.getElem?_eq_getElem (by omega))
  unfold cellD; rw [this]; rfl
theorem HasR.free {w : World} {b : Nat} {T : TypeId} {n : Nat} (h : HasR w b T n) (i : Nat) : w.frozen? ⟨b, i, none⟩ = false := by
  obtain ⟨cs, hl, hn, hb⟩ := h
  exact hb.free i
theorem HasR.set {w : World} {b : Nat} {T : TypeId} {n : Nat} (h : HasR w b T n) (c i : Nat) (v : Value) (hv : ∀ m, v ≠ .int .i64 m) : HasR (w.setCell ⟨c, i, none⟩ v) b T n := by
  obtain ⟨cs, hl, hn, hb⟩ := h
  by_cases e : b = c
  · subst e
    refine ⟨_, by simpa using hl, ?_, hb.set i v⟩
    intro j m
    rw [List.getElem?_set]
    split
    · split
      · intro h; exact hv m (Option.some.inj h)
      · simp
    · exact hn j m
  · exact ⟨cs, hl, hn, hb.other e i v⟩
theorem HasR.below {w w' : World} {b : Nat} {T : TypeId} {n : Nat} (h : HasR w b T n) (hb : Below w.heap.size w w') : HasR w' b T n := by
  obtain ⟨cs, hl, hn, h⟩ := h
  exact ⟨cs, hl, hn, h.below hb⟩
theorem HasR.alloc {w : World} {b : Nat} {T : TypeId} {n : Nat} (h : HasR w b T n) (o : Obj) : HasR (w.alloc o) b T n := by
  obtain ⟨cs, hl, hn, h⟩ := h
  exact ⟨cs, hl, hn, h.alloc o⟩
theorem HasR.lt {w : World} {b : Nat} {T : TypeId} {n : Nat} (h : HasR w b T n) : b < w.heap.size := by
  obtain ⟨cs, _, _, hb⟩ := h
  exact hb.lt

theorem NatV.setR {w : World} {v : Value} {n : Nat} (h : NatV w .i64 R15 v n) {b : Nat} {T : TypeId} {l : Nat} (hb : HasR w b T l) (i : Nat) (u : Value) : NatV (w.setCell ⟨b, i, none⟩ u) .i64 R15 v n := by
  obtain ⟨a, c, e, hc, hr⟩ := h
  refine ⟨a, c, e, hc, ?_⟩
  intro j hj
  obtain ⟨b', o, e', hlt, hcell⟩ := hr j hj
  refine ⟨b', o, e', by simpa [World.setCell] using hlt, ?_⟩
  obtain ⟨cs, hl, hn, hbx⟩ := hb
  by_cases e : b' = b
  · subst e
    exfalso
    unfold Box at hbx
    simp [World.cell?, hbx] at hcell
    exact hn _ _ hcell
  · rw [← hcell]
    exact World.cell?_of_block (Below.heap_setCell _ _ _ _ e)

theorem HasR.nat {w : World} {b : Nat} {T : TypeId} {n : Nat} (h : HasR w b T n) {v : Value} {m : Nat} (hv : NatV w .i64 R15 v m) (v0 v1 v2 : Value) (h0 : ∀ m, v0 ≠ .int .i64 m) (h1 : ∀ m, v1 ≠ .int .i64 m) :
    NatV (((w.setCell ⟨b, 0, none⟩ v0).setCell ⟨b, 1, none⟩ v1).setCell ⟨b, 2, none⟩ v2) .i64 R15 v m :=
  ((hv.setR h 0 v0).setR (h.set b 0 v0 h0) 1 v1).setR ((h.set b 0 v0 h0).set b 1 v1 h1) 2 v2

theorem nodigR {g : Bool} {a1 l1 c1 a2 l2 c2} : ∀ (i : Nat) (m : Int), [Value.bool g, Value.slice a1 l1 c1, Value.slice a2 l2 c2][i]? ≠ some (.int .i64 m) := by
  intro i m
  rcases i with _ | _ | _ | i <;> simp

theorem HasR.box {w : World} {b : Nat} {T : TypeId} {g : Bool} {a1 l1 c1 a2 l2 c2} (h : Box w b T [.bool g, .slice a1 l1 c1, .slice a2 l2 c2]) : HasR w b T 3 := ⟨_, rfl, nodigR, h⟩

/-- a box of a ratio, and one for a fraction -/
def WdS (w : World) (a d : Int) (w' : World) : Prop := Below w.heap.size w w' ∧ Box w' w.heap.size 23 [.int .i64 a, .int .i64 d] ∧ HasR w' (w.heap.size + 1) 54 3

theorem WdS.step {w : World} {a d : Int} {w1 w2 : World} (hb : Below w1.heap.size w1 w2) (h : WdS w a d w1) : WdS w a d w2 := by
  obtain ⟨h1, h2, h3⟩ := h
  exact ⟨h1.trans (hb.mono h1.size), h2.below hb, h3.below hb⟩
theorem WdS.st {w : World} {a d : Int} {w1 : World} (h : WdS w a d w1) (i : Nat) (v : Value) (hv : ∀ m, v ≠ .int .i64 m) : WdS w a d (w1.setCell ⟨w.heap.size + 1, i, none⟩ v) := by
  obtain ⟨h1, h2, h3⟩ := h
  exact ⟨h1.setCell (by simp) _, h2.other (by omega) _ _, h3.set _ _ _ hv⟩
theorem WdS.all {w : World} {a d : Int} {w' : World} (h : WdS w a d w') : WdS w a d w' ∧ w'.cell? ⟨w.heap.size, 0, none⟩ = some (.int .i64 a) ∧ w'.cell? ⟨w.heap.size, 1, none⟩ = some (.int .i64 d) :=
  ⟨h, h.2.1.cell 0 _ rfl, h.2.1.cell 1 _ rfl⟩

set_option maxHeartbeats 1000000 in
theorem rwide_any (a d : Int) (w : World) (ha : I64 a) (hd : I64 d) :
    Calls Tryd.prog 27 #[.agg #[.int .i64 a, .int .i64 d]] w fun e w' => ∃ v, e = .returned v ∧ FracR w' v (decide (a < 0)) a.natAbs d.natAbs ∧ Below w.heap.size w w' := by
  have hS0 : WdS w a d ((w.alloc (Obj.cells #[Value.int IntKind.i64 a, Value.int IntKind.i64 d] 23)).alloc (Obj.cells #[Value.bool false, Value.slice none 0 0, Value.slice none 0 0] 54)) := by
    refine ⟨((Below.refl _ _).alloc (Nat.le_refl _) _).alloc (by simp) _, (Box.made w 23 _).alloc _, [.bool false, .slice none 0 0, .slice none 0 0], rfl, nodigR, ?_⟩
    have := Box.made (w.alloc (Obj.cells #[Value.int IntKind.i64 a, Value.int IntKind.i64 d] 23)) 54 [.bool false, .slice none 0 0, .slice none 0 0]
    simpa using this
  have CP1 := Lib.hid (fun wx => rpart_any a wx ha)
  have CP2 := Lib.hid (fun wx => rpart_any d wx hd)
  go_enter Tryd.func27, Tryd.ntmps27
  go_wp2
  obtain ⟨w0, hw0⟩ : ∃ w0, w0 = ((w.alloc (Obj.cells #[Value.int IntKind.i64 a, Value.int IntKind.i64 d] 23)).alloc (Obj.cells #[Value.bool false, Value.slice none 0 0, Value.slice none 0 0] 54)) := ⟨_, rfl⟩
  rw [← hw0] at hS0
  rw [← hw0]
  clear hw0
  have hS1 : WdS w a d w0.drew := ⟨hS0.1.drew, hS0.2.1, hS0.2.2⟩
  obtain ⟨_, hc0, hc1⟩ := hS0.all
  have r0 := fun (w' : World) (h : WdS w a d w') => h.2.2.cell 0 (by omega)
  have r1 := fun (w' : World) (h : WdS w a d w') => h.2.2.cell 1 (by omega)
  have r2 := fun (w' : World) (h : WdS w a d w') => h.2.2.cell 2 (by omega)
  have f0 := fun (w' : World) (h : WdS w a d w') => h.2.2.free 0
  have f1 := fun (w' : World) (h : WdS w a d w') => h.2.2.free 1
  have f2 := fun (w' : World) (h : WdS w a d w') => h.2.2.free 2
  go_region_held3 (fun w' => WdS w a d w' ∧ w'.cell? ⟨w.heap.size, 0, none⟩ = some (.int .i64 a) ∧ w'.cell? ⟨w.heap.size, 1, none⟩ = some (.int .i64 d)) (first | exact WdS.all (by assumption) | exact WdS.all ((((by assumption : WdS w a d _).st _ _ (by simp)).st _ _ (by simp)).st _ _ (by simp)))
    (first
      | (go_at_call 49; (with_reducible refine (CP1.out _).mono ?_); rintro e w1 ⟨v, rfl, hv1, hb1⟩; have hS1 := WdS.step hb1 (by assumption); obtain ⟨a1, c1, hsv⟩ := hv1.shape; subst hsv)
      | (go_at_call 49; (with_reducible refine (CP2.out _).mono ?_); rintro e w2 ⟨v, rfl, hv2, hb2⟩; have hS1 := WdS.step hb2 (by assumption); obtain ⟨a2, c2, hsv⟩ := hv2.shape; subst hsv))
  go_wp2
  obtain ⟨hend, _⟩ : WdS w a d _ ∧ _ := by assumption
  have hv1' := hv1.below hb2
  have q0 := r0 _ hS1
  have q1 := r1 _ hS1
  have q2 := r2 _ hS1
  clear r0 r1 r2 f0 f1 f2 hc0 hc1
  refine bodyPost_ret (v := .agg #[.bool (decide (a < 0)), .slice a1 (digs R15 a.natAbs).length c1, .slice a2 (digs R15 d.natAbs).length c2]) (by simp [results, Tryd.results27, go_sem, q0, q1, q2]) rfl ⟨_, rfl, ⟨_, _, rfl, ?_, ?_⟩, hend.1⟩
  · exact hS1.2.2.nat hv1' _ _ _ (by simp) (by simp)
  · exact hS1.2.2.nat hv2 _ _ _ (by simp) (by simp)

/-- a fraction in lowest terms -/
def lowS (g : Bool) (m n : Nat) : Bool × Nat × Nat := (g && decide (0 < m / Nat.gcd m n), m / Nat.gcd m n, n / Nat.gcd m n)

theorem gcd_lenR (m n : Nat) (hm : (digs R15 m).length ≤ 10000) (hn : (digs R15 n).length ≤ 10000) : (digs R15 (Nat.gcd m n)).length ≤ 10000 := by
  rcases Nat.eq_zero_or_pos m with rfl | h
  · rw [Nat.gcd_zero_left]; exact hn
  · exact Nat.le_trans (digs_length_mono R15 R15_ge _ _ (Nat.gcd_le_left n h)) hm

/-- a box of a fraction, and one for the result -/
def LoS (w : World) (g : Bool) (v1 v2 : Value) (w' : World) : Prop := Below w.heap.size w w' ∧ Box w' w.heap.size 54 [.bool g, v1, v2] ∧ Box w' (w.heap.size + 1) 54 [.bool false, .slice none 0 0, .slice none 0 0]
theorem LoS.step {w : World} {g : Bool} {v1 v2 : Value} {w1 w2 : World} (hb : Below w1.heap.size w1 w2) (h : LoS w g v1 v2 w1) : LoS w g v1 v2 w2 := by
  obtain ⟨h1, h2, h3⟩ := h
  exact ⟨h1.trans (hb.mono h1.size), h2.below hb, h3.below hb⟩
theorem LoS.start (w : World) (g : Bool) (v1 v2 : Value) : LoS w g v1 v2 ((w.alloc (Obj.cells #[.bool g, v1, v2] 54)).alloc (Obj.cells #[.bool false, .slice none 0 0, .slice none 0 0] 54)) := by
  have e := Box.made (w.alloc (Obj.cells #[.bool g, v1, v2] 54)) 54 [.bool false, .slice none 0 0, .slice none 0 0]
  rw [alloc_size] at e
  exact ⟨((Below.refl _ _).alloc (Nat.le_refl _) _).alloc (by simp) _, (Box.made w 54 _).alloc _, e⟩
theorem LoS.cells {w : World} {g : Bool} {v1 v2 : Value} {w' : World} (h : LoS w g v1 v2 w') :
    w'.cell? ⟨w.heap.size, 0, none⟩ = some (.bool g) ∧ w'.cell? ⟨w.heap.size, 1, none⟩ = some v1 ∧ w'.cell? ⟨w.heap.size, 2, none⟩ = some v2 ∧
    w'.cell? ⟨w.heap.size + 1, 0, none⟩ = some (.bool false) ∧ w'.cell? ⟨w.heap.size + 1, 1, none⟩ = some (.slice none 0 0) ∧ w'.cell? ⟨w.heap.size + 1, 2, none⟩ = some (.slice none 0 0) ∧
    w'.frozen? ⟨w.heap.size + 1, 0, none⟩ = false ∧ w'.frozen? ⟨w.heap.size + 1, 1, none⟩ = false ∧ w'.frozen? ⟨w.heap.size + 1, 2, none⟩ = false :=
  ⟨h.2.1.cell 0 _ rfl, h.2.1.cell 1 _ rfl, h.2.1.cell 2 _ rfl, h.2.2.cell 0 _ rfl, h.2.2.cell 1 _ rfl, h.2.2.cell 2 _ rfl, h.2.2.free 0, h.2.2.free 1, h.2.2.free 2⟩
theorem LoS.fin {w : World} {g : Bool} {v1 v2 : Value} {wz : World} (h : LoS w g v1 v2 wz) (x : Bool) {ao lo co ap lp cp : _} {p n : Nat} (hp : NatV wz .i64 R15 (.slice ao lo co) p) (hn : NatV wz .i64 R15 (.slice ap lp cp) n) :
    FracR (((wz.setCell ⟨w.heap.size + 1, 0, none⟩ (.bool x)).setCell ⟨w.heap.size + 1, 1, none⟩ (.slice ao lo co)).setCell ⟨w.heap.size + 1, 2, none⟩ (.slice ap lp cp)) (.agg #[.bool x, .slice ao lo co, .slice ap lp cp]) x p n ∧
    Below w.heap.size w (((wz.setCell ⟨w.heap.size + 1, 0, none⟩ (.bool x)).setCell ⟨w.heap.size + 1, 1, none⟩ (.slice ao lo co)).setCell ⟨w.heap.size + 1, 2, none⟩ (.slice ap lp cp)) :=
  ⟨⟨_, _, rfl, (HasR.box h.2.2).nat hp _ _ _ (by simp) (by simp), (HasR.box h.2.2).nat hn _ _ _ (by simp) (by simp)⟩, ((h.1.setCell (by simp) _).setCell (by simp) _).setCell (by simp) _⟩

set_option maxHeartbeats 2000000 in
theorem rlowest_any (v : Value) (neg : Bool) (m n : Nat) (w : World) (h : FracR w v neg m n) (hm : (digs R15 m).length ≤ 10000) (hn : (digs R15 n).length ≤ 10000) (hn0 : 0 < n) :
    Calls Tryd.prog 25 #[v] w fun e w' => ∃ v', e = .returned v' ∧ FracR w' v' (lowS neg m n).1 (lowS neg m n).2.1 (lowS neg m n).2.2 ∧ Below w.heap.size w w' := by
  obtain ⟨lo, hlo⟩ : ∃ l, l = lowS neg m n := ⟨_, rfl⟩
  rw [← hlo]
  obtain ⟨lg, lm, ln⟩ := lo
  unfold lowS at hlo
  simp only [Prod.mk.injEq] at hlo
  obtain ⟨e1, e2, e3⟩ := hlo
  have HE1 := Lib.hid e1; have HE2 := Lib.hid e2; have HE3 := Lib.hid e3
  clear e1 e2 e3
  simp only []
  obtain ⟨v1, v2, rfl, n1, n2⟩ := h
  have hS0 := LoS.start w neg v1 v2
  obtain ⟨a1, c1, e1⟩ := n1.shape
  obtain ⟨a2, c2, e2⟩ := n2.shape
  subst e1 e2
  obtain ⟨l1, hl1⟩ : ∃ l1, l1 = (digs R15 m).length := ⟨_, rfl⟩
  obtain ⟨l2, hl2⟩ : ∃ l2, l2 = (digs R15 n).length := ⟨_, rfl⟩
  rw [← hl1] at n1 hS0
  rw [← hl2] at n2 hS0
  rw [← hl1, ← hl2]
  clear hl1 hl2
  go_enter Tryd.func25, Tryd.ntmps25
  go_wp2_with fail
  obtain ⟨w0, hw0⟩ : ∃ w0, w0 = ((w.alloc (Obj.cells #[.bool neg, .slice a1 l1 c1, .slice a2 l2 c2] 54)).alloc (Obj.cells #[.bool false, .slice none 0 0, .slice none 0 0] 54)) := ⟨_, rfl⟩
  rw [← hw0] at hS0
  have n1' := n1.below hS0.1
  have n2' := n2.below hS0.1
  clear n1 n2
  rw [← hw0]
  clear hw0
  refine (rgcdN_any _ _ m n w0 n1' n2' hm hn).mono ?_
  rintro e w1 ⟨vg, rfl, ng, b1⟩
  have hS1 := hS0.step b1
  obtain ⟨k1, k2, k3, k4, k5, k6, k7, k8, k9⟩ := hS1.cells
  have m1 := n1'.below b1
  have m2 := n2'.below b1
  clear hS0 n1' n2' b1
  have hg0 : 0 < Nat.gcd m n := Nat.gcd_pos_of_pos_right m hn0
  have hgl := gcd_lenR m n hm hn
  obtain ⟨g, hg⟩ : ∃ g, g = Nat.gcd m n := ⟨_, rfl⟩
  rw [← hg] at hg0 hgl ng HE1 HE2 HE3
  clear hg
  obtain ⟨ag, cg, eg⟩ := ng.shape
  obtain ⟨lg, hlg⟩ : ∃ l, l = (digs R15 g).length := ⟨_, rfl⟩
  rw [← hlg] at eg
  subst eg
  have HLG := Lib.hid hlg; clear hlg
  go_wp2_with fail
  refine (rdiv_any _ _ m g w1 m1 ng hm hgl hg0).mono ?_
  rintro e w2 ⟨q1, r1, rfl, nq1, nr1, b2⟩
  have hS2 := hS1.step b2
  have m2' := m2.below b2
  have ng' := ng.below b2
  clear k1 k2 k3 k4 k5 k6 k7 k8 k9 m1 m2 ng b2 hS1 nr1
  obtain ⟨k1, k2, k3, k4, k5, k6, k7, k8, k9⟩ := hS2.cells
  obtain ⟨mq, hmq⟩ : ∃ q, q = m / g := ⟨_, rfl⟩
  obtain ⟨nq, hnq⟩ : ∃ q, q = n / g := ⟨_, rfl⟩
  rw [← hmq] at nq1 HE1 HE2
  rw [← hnq] at HE3
  clear hmq
  go_wp2_with fail
  refine (rdiv_any _ _ n g w2 m2' ng' hn hgl hg0).mono ?_
  rintro e w3 ⟨q2, r2, rfl, nq2, nr2, b3⟩
  rw [← hnq] at nq2
  clear hnq
  have hS3 := hS2.step b3
  have nq1' := nq1.below b3
  clear k1 k2 k3 k4 k5 k6 k7 k8 k9 m2' ng' b3 hS2 nr2 nq1
  obtain ⟨k1, k2, k3, k4, k5, k6, k7, k8, k9⟩ := hS3.cells
  obtain ⟨a3, c3, e3⟩ := nq1'.shape
  obtain ⟨a4, c4, e4⟩ := nq2.shape
  have hz : (0 < mq) ↔ (0 : Int) < ((digs R15 mq).length : Int) := by
    have := digs_eq_nil R15 R15_ge mq
    omega
  obtain ⟨l3, hl3⟩ : ∃ l, l = (digs R15 mq).length := ⟨_, rfl⟩
  obtain ⟨l4, hl4⟩ : ∃ l, l = (digs R15 nq).length := ⟨_, rfl⟩
  rw [← hl3] at e3 hz
  rw [← hl4] at e4
  subst e3 e4
  clear hl3 hl4
  cases neg
  · have FIN := Lib.hid (hS3.fin false nq1' nq2)
    clear nq1' nq2 hS3 hz
    go_wp2
    obtain ⟨f5, f6⟩ := FIN.out
    refine bodyPost_ret (v := .agg #[.bool false, .slice a3 l3 c3, .slice a4 l4 c4]) (by simp [results, Tryd.results25, go_sem, k4, k5, k6]) rfl ⟨_, rfl, ?_, f6⟩
    rw [HE1.out, HE2.out, HE3.out, Bool.false_and]; exact f5
  · by_cases hp : 0 < mq
    · have hq : decide ((0 : Int) < (l3 : Int)) = true := decide_eq_true (hz.1 hp)
      have hq2 : decide (0 < l3) = true := decide_eq_true (by omega)
      have FIN := Lib.hid (hS3.fin true nq1' nq2)
      have hdp : (true && decide (0 < mq)) = true := by simp [hp]
      rw [hdp] at HE1
      clear nq1' nq2 hS3 hz hdp hp
      go_wp2
      obtain ⟨f5, f6⟩ := FIN.out
      refine bodyPost_ret (v := .agg #[.bool true, .slice a3 l3 c3, .slice a4 l4 c4]) (by simp [results, Tryd.results25, go_sem, k4, k5, k6]) rfl ⟨_, rfl, ?_, f6⟩
      rw [HE1.out, HE2.out, HE3.out]; exact f5
    · obtain rfl : l3 = 0 := by omega
      have FIN := Lib.hid (hS3.fin false nq1' nq2)
      have hdp : (true && decide (0 < mq)) = false := by simp; omega
      rw [hdp] at HE1
      clear nq1' nq2 hS3 hz hdp hp
      go_wp2
      obtain ⟨f5, f6⟩ := FIN.out
      refine bodyPost_ret (v := .agg #[.bool false, .slice a3 0 c3, .slice a4 l4 c4]) (by simp [results, Tryd.results25, go_sem, k4, k5, k6]) rfl ⟨_, rfl, ?_, f6⟩
      rw [HE1.out, HE2.out, HE3.out]; exact f5

/-- a box of a fraction, one for a ratio -/
def NwS (w : World) (neg : Bool) (v1 v2 : Value) (w' : World) : Prop := Below w.heap.size w w' ∧ Box w' w.heap.size 54 [.bool neg, v1, v2] ∧ Box w' (w.heap.size + 1) 23 [.int .i64 0, .int .i64 0]
theorem NwS.step {w : World} {neg : Bool} {v1 v2 : Value} {w1 w2 : World} (hb : Below w1.heap.size w1 w2) (h : NwS w neg v1 v2 w1) : NwS w neg v1 v2 w2 := by
  obtain ⟨h1, h2, h3⟩ := h
  exact ⟨h1.trans (hb.mono h1.size), h2.below hb, h3.below hb⟩
theorem NwS.start (w : World) (g : Bool) (v1 v2 : Value) : NwS w g v1 v2 ((w.alloc (Obj.cells #[.bool g, v1, v2] 54)).alloc (Obj.cells #[.int .i64 0, .int .i64 0] 23)) := by
  have e := Box.made (w.alloc (Obj.cells #[.bool g, v1, v2] 54)) 23 [.int .i64 0, .int .i64 0]
  rw [alloc_size] at e
  exact ⟨((Below.refl _ _).alloc (Nat.le_refl _) _).alloc (by simp) _, (Box.made w 54 _).alloc _, e⟩
theorem NwS.cells {w : World} {neg : Bool} {v1 v2 : Value} {w' : World} (h : NwS w neg v1 v2 w') :
    w'.cell? ⟨w.heap.size, 0, none⟩ = some (.bool neg) ∧ w'.cell? ⟨w.heap.size, 1, none⟩ = some v1 ∧ w'.cell? ⟨w.heap.size, 2, none⟩ = some v2 ∧
    w'.cell? ⟨w.heap.size + 1, 0, none⟩ = some (.int .i64 0) ∧ w'.cell? ⟨w.heap.size + 1, 1, none⟩ = some (.int .i64 0) ∧ w'.frozen? ⟨w.heap.size + 1, 0, none⟩ = false ∧ w'.frozen? ⟨w.heap.size + 1, 1, none⟩ = false :=
  ⟨h.2.1.cell 0 _ rfl, h.2.1.cell 1 _ rfl, h.2.1.cell 2 _ rfl, h.2.2.cell 0 _ rfl, h.2.2.cell 1 _ rfl, h.2.2.free 0, h.2.2.free 1⟩

/-- the ratio of a fraction that is in lowest terms already -/
def outS (g : Bool) (m n : Nat) : Int × Int × Int := if m ≤ P62 ∧ n ≤ P62 then (if g then -(m : Int) else m, n, 0) else (0, 0, 2)
theorem outS_low (g : Bool) (m n : Nat) : outS (lowS g m n).1 (lowS g m n).2.1 (lowS g m n).2.2 = ratioS g m n := by
  unfold outS lowS ratioS
  simp only []
  split
  · rename_i h
    congr 1
    rcases Nat.eq_zero_or_pos (m / Nat.gcd m n) with h0 | h0
    · rw [h0]; cases g <;> rfl
    · rw [decide_eq_true h0, Bool.and_true]
  · rfl

set_option maxHeartbeats 2000000 in
theorem rnarrow_any (v : Value) (neg : Bool) (m n : Nat) (w : World) (h : FracR w v neg m n) (hm : (digs R15 m).length ≤ 10000) (hn : (digs R15 n).length ≤ 10000) (hn0 : 0 < n) :
    Calls Tryd.prog 26 #[v] w fun e w' => e = RatE (ratioS neg m n) ∧ Below w.heap.size w w' := by
  rw [← outS_low]
  have CL := Lib.hid (fun vx wx hx => rlowest_any vx neg m n wx hx hm hn hn0)
  have hll1 : (digs R15 (lowS neg m n).2.1).length ≤ 10000 := Nat.le_trans (digs_length_mono R15 R15_ge _ _ (Nat.div_le_self _ _)) hm
  have hll2 : (digs R15 (lowS neg m n).2.2).length ≤ 10000 := Nat.le_trans (digs_length_mono R15 R15_ge _ _ (Nat.div_le_self _ _)) hn
  obtain ⟨p, hp⟩ : ∃ p, p = lowS neg m n := ⟨_, rfl⟩
  rw [← hp] at CL hll1 hll2
  rw [← hp]
  clear hp
  obtain ⟨g, mq, nq⟩ := p
  simp only [] at CL hll1 hll2
  simp only []
  obtain ⟨v1, v2, rfl, n1, n2⟩ := h
  have hS0 := NwS.start w neg v1 v2
  obtain ⟨a1, c1, e1⟩ := n1.shape
  obtain ⟨a2, c2, e2⟩ := n2.shape
  subst e1 e2
  obtain ⟨l1, hl1⟩ : ∃ l1, l1 = (digs R15 m).length := ⟨_, rfl⟩
  obtain ⟨l2, hl2⟩ : ∃ l2, l2 = (digs R15 n).length := ⟨_, rfl⟩
  rw [← hl1] at n1 hS0
  rw [← hl2] at n2 hS0
  rw [← hl1, ← hl2]
  clear hl1 hl2 hm hn
  obtain ⟨k1, k2, k3, k4, k5, k6, k7⟩ := hS0.cells
  go_enter Tryd.func26, Tryd.ntmps26
  go_wp2_with fail
  clear k1 k2 k3 k4 k5 k6 k7
  obtain ⟨w0, hw0⟩ : ∃ w0, w0 = ((w.alloc (Obj.cells #[.bool neg, .slice a1 l1 c1, .slice a2 l2 c2] 54)).alloc (Obj.cells #[.int .i64 0, .int .i64 0] 23)) := ⟨_, rfl⟩
  rw [← hw0] at hS0
  have n1' := n1.below hS0.1
  have n2' := n2.below hS0.1
  clear n1 n2
  rw [← hw0]
  clear hw0
  refine (CL.out _ w0 (FracR.of_pair n1' n2')).mono ?_
  rintro e w1 ⟨vl, rfl, fl, b1⟩
  replace hS0 := hS0.step b1
  obtain ⟨x1, x2, ex, nx1, nx2⟩ := fl
  obtain ⟨a3, c3, e3⟩ := nx1.shape
  obtain ⟨a4, c4, e4⟩ := nx2.shape
  subst e3 e4 ex
  clear n1' n2' b1 CL
  obtain ⟨l3, hl3⟩ : ∃ l, l = (digs R15 mq).length := ⟨_, rfl⟩
  obtain ⟨l4, hl4⟩ : ∃ l, l = (digs R15 nq).length := ⟨_, rfl⟩
  rw [← hl3] at nx1
  rw [← hl4] at nx2
  rw [← hl3, ← hl4]
  clear hl3 hl4
  have hbA : Below w1.heap.size w1 (w1.alloc (Obj.cells #[.bool g, .slice a3 l3 c3, .slice a4 l4 c4] 54)) := (Below.refl _ _).alloc (Nat.le_refl _) _
  have hX := Box.made w1 54 [.bool g, .slice a3 l3 c3, .slice a4 l4 c4]
  have y1 := nx1.below hbA
  have y2 := nx2.below hbA
  replace hS0 := hS0.step hbA
  clear hbA nx1 nx2
  have z0 := hX.cell 0 _ rfl
  have z1 := hX.cell 1 _ rfl
  have z2 := hX.cell 2 _ rfl
  go_wp2_with fail
  clear z0 z1 z2
  refine (rnumber_any _ mq _ y1 hll1).mono ?_
  rintro e w4 ⟨⟨s1, rfl, hs1⟩, b4⟩
  replace hS0 := hS0.step b4
  replace hX := hX.below b4
  replace y2 := y2.below b4
  clear b4 y1
  have HS1 := Lib.hid hs1
  clear hs1
  obtain ⟨u1, hu1⟩ : ∃ x : Int, x = (if mq ≤ P62 then (mq : Int) else 0) := ⟨_, rfl⟩
  rw [← hu1]
  have HU1 := Lib.hid hu1
  have hu1b : 0 ≤ u1 ∧ u1 ≤ 4611686018427387904 := by
    rw [hu1]; split
    · rename_i h; unfold P62 at h; omega
    · omega
  clear hu1
  have z0 := hX.cell 0 _ rfl
  have z1 := hX.cell 1 _ rfl
  have z2 := hX.cell 2 _ rfl
  go_wp2_with fail
  clear z0 z1 z2
  refine (rnumber_any _ nq _ y2 hll2).mono ?_
  rintro e w5 ⟨⟨s2, rfl, hs2⟩, b5⟩
  replace hS0 := hS0.step b5
  replace hX := hX.below b5
  clear b5 y2
  have HS2 := Lib.hid hs2
  clear hs2
  obtain ⟨u2, hu2⟩ : ∃ x : Int, x = (if nq ≤ P62 then (nq : Int) else 0) := ⟨_, rfl⟩
  rw [← hu2]
  have HU2 := Lib.hid hu2
  clear hu2
  have hbl := hS0.1
  obtain ⟨k1, k2, k3, k4, k5, k6, k7⟩ := hS0.cells
  have z0 := hX.cell 0 _ rfl
  clear hS0 hX hll1 hll2
  rcases Bool.eq_false_or_eq_true s1 with rfl | rfl
  · rcases Bool.eq_false_or_eq_true s2 with rfl | rfl
    · cases g
      · go_wp2
        refine bodyPost_ret (v := .tuple #[.agg #[.int .i64 u1, .int .i64 u2], .int .i64 0]) (by simp [results, Tryd.results26, go_sem, k4, k5]) rfl ⟨?_, (hbl.setCell (by simp) _).setCell (by simp) _⟩
        have e1 := HS1.out; have e2 := HS2.out
        simp at e1 e2
        have f1 := HU1.out; have f2 := HU2.out
        rw [if_pos e1] at f1
        rw [if_pos e2] at f2
        unfold outS RatE
        rw [if_pos ⟨e1, e2⟩, f1, f2]
        rfl
      · go_wp2
        refine bodyPost_ret (v := .tuple #[.agg #[.int .i64 (-u1), .int .i64 u2], .int .i64 0]) (by simp [results, Tryd.results26, go_sem, k4, k5]) rfl ⟨?_, (hbl.setCell (by simp) _).setCell (by simp) _⟩
        have e1 := HS1.out; have e2 := HS2.out
        simp at e1 e2
        have f1 := HU1.out; have f2 := HU2.out
        rw [if_pos e1] at f1
        rw [if_pos e2] at f2
        unfold outS RatE
        rw [if_pos ⟨e1, e2⟩, f1, f2]
        rfl
    · go_wp2
      refine bodyPost_ret (v := .tuple #[.agg #[.int .i64 0, .int .i64 0], .int .i64 2]) (by simp [results, Tryd.results26, go_sem, k4, k5]) rfl ⟨?_, (hbl.setCell (by simp) _).setCell (by simp) _⟩
      have e2 := HS2.out
      simp at e2
      unfold outS RatE
      rw [if_neg (by omega)]
  · go_wp2
    refine bodyPost_ret (v := .tuple #[.agg #[.int .i64 0, .int .i64 0], .int .i64 2]) (by simp [results, Tryd.results26, go_sem, k4, k5]) rfl ⟨?_, (hbl.setCell (by simp) _).setCell (by simp) _⟩
    have e1 := HS1.out
    simp at e1
    unfold outS RatE
    rw [if_neg (by omega)]

end Go.Proofs.YtpjjbdpkhmeldaaDoor
