/- contracts of ratio's divisor, of, small, (fraction).ratio, (fraction).add -/
import Derived.Test.YtpjjbdpkhmeldaaDoorA6
import Derived.Deep.RegionHeld3
namespace Go.Proofs.YtpjjbdpkhmeldaaDoor
open Go.RowKit

theorem gcd_len (m n : Nat) (hm : (digs W32 m).length ≤ 10000) (hn : (digs W32 n).length ≤ 10000) : (digs W32 (Nat.gcd m n)).length ≤ 10000 := by
  rcases Nat.eq_zero_or_pos m with rfl | h
  · rw [Nat.gcd_zero_left]; exact hn
  · exact Nat.le_trans (digs_length_mono W32 W32_ge _ _ (Nat.gcd_le_left n h)) hm


/-- the number that a slice of digits stands for -/
noncomputable def numOf (w : World) (v : Value) : Nat := by
  classical exact if h : ∃ n, NatV w .u32 W32 v n then h.choose else 0

theorem NatV.inj {w : World} {v : Value} {m n : Nat} (h1 : NatV w .u32 W32 v m) (h2 : NatV w .u32 W32 v n) : m = n := by
  obtain ⟨a, c, rfl, _, r1⟩ := h1
  obtain ⟨a', c', e, _, r2⟩ := h2
  simp only [Value.slice.injEq] at e
  obtain ⟨rfl, hl, rfl⟩ := e
  have : digs W32 m = digs W32 n := by
    apply List.ext_getElem hl
    intro i h1 h2
    obtain ⟨b, o, e1, _, c1⟩ := r1 i h1
    obtain ⟨b', o', e2, _, c2⟩ := r2 i h2
    rw [e1] at e2
    simp only [Option.some.injEq, Addr.mk.injEq, and_true] at e2
    obtain ⟨rfl, rfl⟩ := e2
    rw [c1] at c2
    simp only [Option.some.injEq, Value.int.injEq, true_and] at c2
    omega
  rw [← val_digs W32 W32_ge m, this, val_digs W32 W32_ge n]

theorem numOf_eq {w : World} {v : Value} {n : Nat} (h : NatV w .u32 W32 v n) : numOf w v = n := by
  unfold numOf
  rw [dif_pos ⟨n, h⟩]
  exact NatV.inj (Exists.choose_spec (p := fun n => NatV w .u32 W32 v n) ⟨n, h⟩) h

theorem NatV.shape {w : World} {k : IntKind} {B : Nat} {v : Value} {n : Nat} (h : NatV w k B v n) : ∃ a c, v = .slice a (digs B n).length c := by
  obtain ⟨a, c, e, _⟩ := h
  exact ⟨a, c, e⟩

set_option maxHeartbeats 1000000 in
theorem divisor_any (va vb : Value) (m n : Nat) (w : World) (ha : NatV w .u32 W32 va m) (hb : NatV w .u32 W32 vb n) (hma : (digs W32 m).length ≤ 10000) (hmb : (digs W32 n).length ≤ 10000) :
    Calls Tryd.prog 21 #[va, vb] w fun e w' => ∃ v, e = .returned v ∧ NatV w' .u32 W32 v (Nat.gcd m n) ∧ Below w.heap.size w w' := by
  go_enter Tryd.func21, Tryd.ntmps21
  go_wp2
  go_loopw [0, 1] (fun s0 s1 wr => ∃ a b : Nat, NatV wr .u32 W32 s0 a ∧ NatV wr .u32 W32 s1 b ∧ Nat.gcd a b = Nat.gcd m n ∧ (digs W32 a).length ≤ 10000 ∧ (digs W32 b).length ≤ 10000 ∧ Below w.heap.size w wr) (fun _ s1 wr => numOf wr s1)
  case atStart => exact ⟨m, n, ha, hb, rfl, hma, hmb, Below.refl _ _⟩
  case round =>
    obtain ⟨a, b, na, nb, hg, hla, hlb, hbl⟩ := hrel
    have HG := Lib.hid hg
    have hm1 := numOf_eq nb
    have HM1 := Lib.hid hm1
    clear hg ha hb hm1
    rcases Nat.eq_zero_or_pos b with rfl | hbp
    · obtain ⟨ab, cb, rfl, hcb, rb⟩ := id nb
      rw [digs_zero]
      go_wp2
      go_ret
      have := HG.out
      rw [Nat.gcd_zero_right] at this
      subst this
      exact ⟨_, rfl, na, hbl⟩
    · obtain ⟨ab, cb, rfl, hcb, rb⟩ := id nb
      have hlp : 0 < (digs W32 b).length := by
        apply Nat.pos_of_ne_zero; intro e; rw [digs_eq_nil W32 W32_ge] at e; omega
      obtain ⟨lb, hlb2⟩ : ∃ lb, lb = (digs W32 b).length := ⟨_, rfl⟩
      rw [← hlb2] at hlp hlb nb HM1
      rw [← hlb2]
      have HLB := Lib.hid hlb2
      clear hlb2 rb hcb
      go_wp2_with fail
      refine (divide_any _ _ a b _ na nb hla (by rw [← HLB.out]; exact hlb) hbp).mono ?_
      rintro e w1 ⟨v1, v2, rfl, n1, n2, hb1⟩
      have nb1 := nb.below hb1
      have hmod : a % b < b := Nat.mod_lt _ hbp
      have hm2 := numOf_eq n2
      have HM2 := Lib.hid hm2
      clear hm2
      go_wp2
      go_roundw
      case rel =>
        refine ⟨b, a % b, nb1, n2, ?_, by rw [← HLB.out]; exact hlb, ?_, hbl.trans (hb1.mono hbl.size)⟩
        · rw [← HG.out, Nat.gcd_comm a b, Nat.gcd_rec b a, Nat.gcd_comm]
        · exact Nat.le_trans (digs_length_mono W32 W32_ge _ _ (Nat.le_of_lt hmod)) (by rw [← HLB.out]; exact hlb)
      case measure =>
        show numOf _ _ < numOf _ _
        have e1 := HM1.out; have e2 := HM2.out
        rw [e1, e2]; exact hmod

/-- a fraction in three cells -/
def FracV (w : World) (v : Value) (neg : Bool) (m n : Nat) : Prop := ∃ v1 v2, v = .agg #[.bool neg, v1, v2] ∧ NatV w .u32 W32 v1 m ∧ NatV w .u32 W32 v2 n

theorem FracV.below {w w' : World} {v : Value} {neg : Bool} {m n : Nat} (h : FracV w v neg m n) (hb : Below w.heap.size w w') : FracV w' v neg m n := by
  obtain ⟨v1, v2, e, h1, h2⟩ := h
  exact ⟨v1, v2, e, h1.below hb, h2.below hb⟩

/-- block b is known whole -/
def Box (w : World) (b : Nat) (T : TypeId) (cs : List Value) : Prop := w.heap[b]? = some (.cells cs.toArray T (0, 0))

theorem Box.lt {w : World} {b : Nat} {T : TypeId} {cs : List Value} (h : Box w b T cs) : b < w.heap.size := by
  unfold Box at h
  exact (Array.getElem?_eq_some_iff.1 h).1
theorem Box.cell {w : World} {b : Nat} {T : TypeId} {cs : List Value} (h : Box w b T cs) (i : Nat) (v : Value) (hv : cs[i]? = some v) : w.cell? ⟨b, i, none⟩ = some v := by
  unfold Box at h
  simp [World.cell?, h, hv]
theorem Box.free {w : World} {b : Nat} {T : TypeId} {cs : List Value} (h : Box w b T cs) (i : Nat) : w.frozen? ⟨b, i, none⟩ = false := by
  unfold Box at h
  simp [World.frozen?, h]
theorem Box.set {w : World} {b : Nat} {T : TypeId} {cs : List Value} (h : Box w b T cs) (i : Nat) (v : Value) : Box (w.setCell ⟨b, i, none⟩ v) b T (cs.set i v) := by
  unfold Box at h ⊢
  simp [World.setCell, Array.getElem?_modify, h]
theorem Box.below {w w' : World} {b : Nat} {T : TypeId} {cs : List Value} (h : Box w b T cs) (hb : Below w.heap.size w w') : Box w' b T cs := by
  have := h.lt
  unfold Box at h ⊢
  rw [hb.block b this]; exact h
theorem Box.other {w : World} {b c : Nat} {T : TypeId} {cs : List Value} (h : Box w b T cs) (hbc : b ≠ c) (i : Nat) (v : Value) : Box (w.setCell ⟨c, i, none⟩ v) b T cs := by
  unfold Box at h ⊢
  rw [Below.heap_setCell _ _ _ _ hbc]; exact h
theorem Box.made (w : World) (T : TypeId) (cs : List Value) : Box (w.alloc (.cells cs.toArray T)) w.heap.size T cs := by
  unfold Box
  rw [heap_alloc_new]
theorem Box.alloc {w : World} {b : Nat} {T : TypeId} {cs : List Value} (h : Box w b T cs) (o : Obj) : Box (w.alloc o) b T cs := by
  have := h.lt
  unfold Box at h ⊢
  rw [Below.heap_alloc _ _ _ this]; exact h


/-- block b has n cells, none of which holds a digit -/
def Has (w : World) (b : Nat) (T : TypeId) (n : Nat) : Prop := ∃ cs : List Value, cs.length = n ∧ (∀ (i : Nat) (m : Int), cs[i]? ≠ some (.int .u32 m)) ∧ Box w b T cs
def cellD (w : World) (a : Addr) : Value := (w.cell? a).getD undef
theorem Has.cell {w : World} {b : Nat} {T : TypeId} {n : Nat} (h : Has w b T n) (i : Nat) (hi : i < n) : w.cell? ⟨b, i, none⟩ = some (cellD w ⟨b, i, none⟩) := by
  obtain ⟨cs, hl, hn, hb⟩ := h
  have := hb.cell i (cs[i]'(by omega)) (List.getElem?_eq_getElem (by omega))
  unfold cellD; rw [this]; rfl
theorem Has.free {w : World} {b : Nat} {T : TypeId} {n : Nat} (h : Has w b T n) (i : Nat) : w.frozen? ⟨b, i, none⟩ = false := by
  obtain ⟨cs, hl, hn, hb⟩ := h
  exact hb.free i
theorem Has.set {w : World} {b : Nat} {T : TypeId} {n : Nat} (h : Has w b T n) (c i : Nat) (v : Value) (hv : ∀ m, v ≠ .int .u32 m) : Has (w.setCell ⟨c, i, none⟩ v) b T n := by
  obtain ⟨cs, hl, hn, hb⟩ := h
  by_cases e : b = c
  · subst e
    refine ⟨_, by simpa using hl, ?_, hb.set i v⟩
    intro j m
    rw [List.getElem?_set]
    split
    · split
      · intro h; exact hv m (Option.some.inj h)
      · simp
    · exact hn j m
  · exact ⟨cs, hl, hn, hb.other e i v⟩
theorem Has.below {w w' : World} {b : Nat} {T : TypeId} {n : Nat} (h : Has w b T n) (hb : Below w.heap.size w w') : Has w' b T n := by
  obtain ⟨cs, hl, hn, h⟩ := h
  exact ⟨cs, hl, hn, h.below hb⟩

/-- digits do not lie where none can lie -/
theorem NatV.set {w : World} {v : Value} {n : Nat} (h : NatV w .u32 W32 v n) {b : Nat} {T : TypeId} {l : Nat} (hb : Has w b T l) (i : Nat) (u : Value) : NatV (w.setCell ⟨b, i, none⟩ u) .u32 W32 v n := by
  obtain ⟨a, c, e, hc, hr⟩ := h
  refine ⟨a, c, e, hc, ?_⟩
  intro j hj
  obtain ⟨b', o, e', hlt, hcell⟩ := hr j hj
  refine ⟨b', o, e', by simpa [World.setCell] using hlt, ?_⟩
  obtain ⟨cs, hl, hn, hbx⟩ := hb
  by_cases e : b' = b
  · subst e
    exfalso
    unfold Box at hbx
    simp [World.cell?, hbx] at hcell
    exact hn _ _ hcell
  · rw [← hcell]
    exact World.cell?_of_block (Below.heap_setCell _ _ _ _ e)

/-- a box of a ratio, and one for a fraction -/
def OfS (w : World) (a : Int) (d : Nat) (w' : World) : Prop := Below w.heap.size w w' ∧ Box w' w.heap.size 23 [.int .i64 a, .int .i64 d] ∧ Has w' (w.heap.size + 1) 46 3

theorem OfS.step {w : World} {a : Int} {d : Nat} {w1 w2 : World} (hb : Below w1.heap.size w1 w2) (h : OfS w a d w1) : OfS w a d w2 := by
  obtain ⟨h1, h2, h3⟩ := h
  exact ⟨h1.trans (hb.mono h1.size), h2.below hb, h3.below hb⟩
theorem OfS.st {w : World} {a : Int} {d : Nat} {w1 : World} (h : OfS w a d w1) (i : Nat) (v : Value) (hv : ∀ m, v ≠ .int .u32 m) : OfS w a d (w1.setCell ⟨w.heap.size + 1, i, none⟩ v) := by
  obtain ⟨h1, h2, h3⟩ := h
  exact ⟨h1.setCell (by simp) _, h2.other (by omega) _ _, h3.set _ _ _ hv⟩
theorem OfS.all {w : World} {a : Int} {d : Nat} {w' : World} (h : OfS w a d w') : OfS w a d w' ∧ w'.cell? ⟨w.heap.size, 0, none⟩ = some (.int .i64 a) ∧ w'.cell? ⟨w.heap.size, 1, none⟩ = some (.int .i64 d) :=
  ⟨h, h.2.1.cell 0 _ rfl, h.2.1.cell 1 _ rfl⟩

theorem Has.nat {w : World} {b : Nat} {T : TypeId} {n : Nat} (h : Has w b T n) {v : Value} {m : Nat} (hv : NatV w .u32 W32 v m) (v0 v1 v2 : Value) (h0 : ∀ m, v0 ≠ .int .u32 m) (h1 : ∀ m, v1 ≠ .int .u32 m) :
    NatV (((w.setCell ⟨b, 0, none⟩ v0).setCell ⟨b, 1, none⟩ v1).setCell ⟨b, 2, none⟩ v2) .u32 W32 v m :=
  ((hv.set h 0 v0).set (h.set b 0 v0 h0) 1 v1).set ((h.set b 0 v0 h0).set b 1 v1 h1) 2 v2

set_option maxHeartbeats 1000000 in
theorem of_any (a : Int) (d : Nat) (w : World) (ha : -4611686018427387904 ≤ a ∧ a ≤ 4611686018427387904) (hd : d ≤ 4611686018427387904) :
    Calls Tryd.prog 30 #[.agg #[.int .i64 a, .int .i64 d]] w fun e w' => ∃ v, e = .returned v ∧ FracV w' v (decide (a < 0)) a.natAbs d ∧ Below w.heap.size w w' := by
  have hS0 : OfS w a d ((w.alloc (Obj.cells #[Value.int IntKind.i64 a, Value.int IntKind.i64 ↑d] 23)).alloc (Obj.cells #[Value.bool false, Value.slice none 0 0, Value.slice none 0 0] 46)) := by
    refine ⟨((Below.refl _ _).alloc (Nat.le_refl _) _).alloc (by simp) _, (Box.made w 23 _).alloc _, [.bool false, .slice none 0 0, .slice none 0 0], rfl, ?_, ?_⟩
    · intro i m
      rcases i with _ | _ | _ | i <;> simp
    · have := Box.made (w.alloc (Obj.cells #[Value.int IntKind.i64 a, Value.int IntKind.i64 ↑d] 23)) 46 [.bool false, .slice none 0 0, .slice none 0 0]
      simpa using this
  go_enter Tryd.func30, Tryd.ntmps30
  go_wp2
  obtain ⟨w0, hw0⟩ : ∃ w0, w0 = ((w.alloc (Obj.cells #[Value.int IntKind.i64 a, Value.int IntKind.i64 ↑d] 23)).alloc (Obj.cells #[Value.bool false, Value.slice none 0 0, Value.slice none 0 0] 46)) := ⟨_, rfl⟩
  rw [← hw0] at hS0
  rw [← hw0]
  clear hw0
  have hS1 : OfS w a d w0.drew := ⟨hS0.1.drew, hS0.2.1, hS0.2.2⟩
  have hwd := u64_id d (by omega)
  obtain ⟨_, hc0, hc1⟩ := hS0.all
  have r0 := fun (w' : World) (h : OfS w a d w') => h.2.2.cell 0 (by omega)
  have r1 := fun (w' : World) (h : OfS w a d w') => h.2.2.cell 1 (by omega)
  have r2 := fun (w' : World) (h : OfS w a d w') => h.2.2.cell 2 (by omega)
  have f0 := fun (w' : World) (h : OfS w a d w') => h.2.2.free 0
  have f1 := fun (w' : World) (h : OfS w a d w') => h.2.2.free 1
  have f2 := fun (w' : World) (h : OfS w a d w') => h.2.2.free 2
  go_region_held3 (fun w' => OfS w a d w' ∧ w'.cell? ⟨w.heap.size, 0, none⟩ = some (.int .i64 a) ∧ w'.cell? ⟨w.heap.size, 1, none⟩ = some (.int .i64 d)) (first | exact OfS.all (by assumption) | exact OfS.all ((((by assumption : OfS w a d _).st _ _ (by simp)).st _ _ (by simp)).st _ _ (by simp)))
    (first
      | (go_at_call 29; refine (magnitude_any _ _ (by omega)).mono ?_; rintro e w' ⟨rfl, rfl⟩)
      | (go_at_call 18; (with_reducible refine (word_any a.natAbs _ (by omega)).mono ?_); rintro e w1 ⟨v, rfl, hv1, hb1⟩; have hS1 := OfS.step hb1 (by assumption); obtain ⟨a1, c1, hsv⟩ := hv1.shape; subst hsv)
      | (go_at_call 18; (with_reducible refine (word_any d _ (by omega)).mono ?_); rintro e w2 ⟨v, rfl, hv2, hb2⟩; have hS1 := OfS.step hb2 (by assumption); obtain ⟨a2, c2, hsv⟩ := hv2.shape; subst hsv))
  go_wp2
  obtain ⟨hend, _⟩ : OfS w a d _ ∧ _ := by assumption
  have hv1' := hv1.below hb2
  have q0 := r0 _ hS1
  have q1 := r1 _ hS1
  have q2 := r2 _ hS1
  clear r0 r1 r2 f0 f1 f2 hc0 hc1
  refine bodyPost_ret (v := .agg #[.bool (decide (a < 0)), .slice a1 (digs W32 a.natAbs).length c1, .slice a2 (digs W32 d).length c2]) (by simp [results, Tryd.results30, go_sem, q0, q1, q2]) rfl ⟨_, rfl, ⟨_, _, rfl, ?_, ?_⟩, hend.1⟩
  · exact hS1.2.2.nat hv1' _ _ _ (by simp) (by simp)
  · exact hS1.2.2.nat hv2 _ _ _ (by simp) (by simp)

end Go.Proofs.YtpjjbdpkhmeldaaDoor
