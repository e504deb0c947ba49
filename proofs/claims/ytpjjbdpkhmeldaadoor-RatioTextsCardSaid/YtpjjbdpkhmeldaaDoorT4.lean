/- contract of ratio's Parse -/
import Derived.Test.YtpjjbdpkhmeldaaDoorT3
import Derived.Test.YtpjjbdpkhmeldaaDoorB8
import Derived.Test.YtpjjbdpkhmeldaaDoorB9
namespace Go.Proofs.YtpjjbdpkhmeldaaDoor
open Go.RowKit

/-- the number under way: the result's box, and the fraction's -/
def PaT (w : World) (bx : Nat) (g : Bool) (v1 v2 : Value) (m n : Nat) (w' : World) : Prop :=
  SuI w w' ∧ w.heap.size < bx ∧ Box w' bx 46 [.bool g, v1, v2] ∧ NatV w' .u32 W32 v1 m ∧ NatV w' .u32 W32 v2 n
theorem PaT.step {w : World} {bx : Nat} {g : Bool} {v1 v2 : Value} {m n : Nat} {w1 w2 : World} (hb : Below w1.heap.size w1 w2) (h : PaT w bx g v1 v2 m n w1) : PaT w bx g v1 v2 m n w2 := by
  obtain ⟨h1, h2, h3, h4, h5⟩ := h
  exact ⟨h1.step hb, h2, h3.below hb, h4.below hb, h5.below hb⟩
theorem PaT.drew {w : World} {bx : Nat} {g : Bool} {v1 v2 : Value} {m n : Nat} {w1 : World} (h : PaT w bx g v1 v2 m n w1) : PaT w bx g v1 v2 m n w1.drew := h.step (Below.refl _ _).drew
theorem PaT.all {w : World} {bx : Nat} {g : Bool} {v1 v2 : Value} {m n : Nat} {w' : World} (h : PaT w bx g v1 v2 m n w') :
    PaT w bx g v1 v2 m n w' ∧ w'.cell? ⟨bx, 0, none⟩ = some (.bool g) ∧ w'.cell? ⟨bx, 1, none⟩ = some v1 ∧ w'.cell? ⟨bx, 2, none⟩ = some v2 := ⟨h, h.2.2.1.cell 0 _ rfl, h.2.2.1.cell 1 _ rfl, h.2.2.1.cell 2 _ rfl⟩
theorem PaT.cells {w : World} {bx : Nat} {g : Bool} {v1 v2 : Value} {m n : Nat} {w' : World} (h : PaT w bx g v1 v2 m n w') :
    w'.cell? ⟨bx, 0, none⟩ = some (.bool g) ∧ w'.cell? ⟨bx, 1, none⟩ = some v1 ∧ w'.cell? ⟨bx, 2, none⟩ = some v2 ∧ w'.frozen? ⟨bx, 1, none⟩ = false ∧ w'.frozen? ⟨bx, 2, none⟩ = false ∧
    w'.cell? ⟨w.heap.size, 0, none⟩ = some (.int .i64 0) ∧ w'.cell? ⟨w.heap.size, 1, none⟩ = some (.int .i64 0) ∧ w'.frozen? ⟨w.heap.size, 0, none⟩ = false ∧ w'.frozen? ⟨w.heap.size, 1, none⟩ = false :=
  ⟨h.2.2.1.cell 0 _ rfl, h.2.2.1.cell 1 _ rfl, h.2.2.1.cell 2 _ rfl, h.2.2.1.free 1, h.2.2.1.free 2, h.1.cells⟩
theorem PaT.set1 {w : World} {bx : Nat} {g : Bool} {a1 l1 c1 a2 l2 c2 a l c} {m n k : Nat} {w1 : World} (h : PaT w bx g (.slice a1 l1 c1) (.slice a2 l2 c2) m n w1) (hn : NatV w1 .u32 W32 (.slice a l c) k) :
    PaT w bx g (.slice a l c) (.slice a2 l2 c2) k n (w1.setCell ⟨bx, 1, none⟩ (.slice a l c)) := by
  obtain ⟨h1, h2, h3, h4, h5⟩ := h
  exact ⟨h1.other bx 1 h2 _, h2, h3.set 1 _, hn.box h3 nodig3 1 _, h5.box h3 nodig3 1 _⟩
theorem PaT.set2 {w : World} {bx : Nat} {g : Bool} {a1 l1 c1 a2 l2 c2 a l c} {m n k : Nat} {w1 : World} (h : PaT w bx g (.slice a1 l1 c1) (.slice a2 l2 c2) m n w1) (hn : NatV w1 .u32 W32 (.slice a l c) k) :
    PaT w bx g (.slice a1 l1 c1) (.slice a l c) m k (w1.setCell ⟨bx, 2, none⟩ (.slice a l c)) := by
  obtain ⟨h1, h2, h3, h4, h5⟩ := h
  exact ⟨h1.other bx 2 h2 _, h2, h3.set 2 _, h4.box h3 nodig3 2 _, hn.box h3 nodig3 2 _⟩
theorem PaT.start {w w3 : World} (hI : SuI w w3) (g : Bool) {a l c} {n : Nat} (hn : NatV w3 .u32 W32 (.slice a l c) n) :
    PaT w w3.heap.size g (.slice none 0 0) (.slice a l c) 0 n (w3.alloc (Obj.cells #[.bool g, .slice none 0 0, .slice a l c] 46)) :=
  ⟨hI.alloc _, hI.2.lt, Box.made w3 46 _, NatV.zero32 _, hn.below ((Below.refl _ _).alloc (Nat.le_refl _) _)⟩
theorem PaT.fin {w : World} {bx : Nat} {g : Bool} {v1 v2 : Value} {m n : Nat} {w' : World} (h : PaT w bx g v1 v2 m n w') : Below w.heap.size w w' := h.1.1
theorem PaT.len {w : World} {bx : Nat} {g : Bool} {v1 v2 : Value} {m n : Nat} {w' : World} (h : PaT w bx g v1 v2 m n w') : w.heap.size < w'.heap.size := h.1.2.lt

def CutC (s sR : ByteArray) (neg : Bool) : Prop := ∀ wx, Calls Tryd.prog 16 #[.string s, .string ⟨#[45]⟩] wx fun e w' => e = .returned (.tuple #[.string sR, .bool neg]) ∧ w' = wx
def SplC (sR sN sD : ByteArray) (sl : Bool) : Prop := ∀ wx, Env wx → Calls Tryd.prog 17 #[.string sR, .string ⟨#[47]⟩] wx fun e w' => e = .returned (.tuple #[.string sN, .string sD, .bool sl]) ∧ Below wx.heap.size wx w'
def DigF (sN : ByteArray) : Prop := ∀ wx, Calls Tryd.prog 19 #[.string sN] wx fun e w' => e = .returned (.tuple #[.slice none 0 0, .bool false]) ∧ Below wx.heap.size wx w'
def DigT (sN : ByteArray) (m : Nat) : Prop := ∀ wx, Calls Tryd.prog 19 #[.string sN] wx fun e w' => (∃ a c, e = .returned (.tuple #[.slice a (digs W32 m).length c, .bool true]) ∧ NatV w' .u32 W32 (.slice a (digs W32 m).length c) m) ∧ Below wx.heap.size wx w'

set_option maxHeartbeats 1000000 in
theorem parse_long (s : ByteArray) (w : World) (hs : 40 < s.size) : Calls Tryd.prog 6 #[.string s] w fun e w' => e = RatE (0, 0, 3) ∧ Below w.heap.size w w' := by
  have st := SuI.start w
  go_enter Tryd.func6, Tryd.ntmps6
  go_wp2
  obtain ⟨k1, k2, k3, k4⟩ := st.cells
  go_wp2
  refine bodyPost_ret (v := .tuple #[.agg #[.int .i64 0, .int .i64 0], .int .i64 3]) (by simp [results, Tryd.results6, go_sem, k1, k2]) rfl ⟨rfl, st.1⟩

set_option maxHeartbeats 1000000 in
theorem parse_e1 (s sR sN sD : ByteArray) (neg sl : Bool) (w : World) (hs : s.size ≤ 40) (hE : Env w) (CP : Hid (CutC s sR neg)) (CC : Hid (SplC sR sN sD sl)) (D1 : Hid (DigF sN)) :
    Calls Tryd.prog 6 #[.string s] w fun e w' => e = RatE (0, 0, 3) ∧ Below w.heap.size w w' := by
  have st := SuI.start w
  have hs2 : (s.size : Int) ≤ 40 := by omega
  have C1 : Hid (∀ wx, Calls Tryd.prog 18 #[.int .u64 1] wx fun e w' => ∃ v, e = .returned v ∧ NatV w' .u32 W32 v 1 ∧ Below wx.heap.size wx w') := Lib.hid (fun wx => word_any 1 wx (by omega))
  go_enter Tryd.func6, Tryd.ntmps6
  go_wp2_with fail
  refine (CP.out _).mono ?_
  rintro e w1 ⟨rfl, rfl⟩
  go_wp2_with fail
  refine (CC.out _ (hE.below st.1)).mono ?_
  rintro e w2 ⟨rfl, hb2⟩
  replace st := st.step hb2
  clear hb2
  go_wp2_with fail
  refine (C1.out _).mono ?_
  rintro e w3 ⟨vd, rfl, nd, hb3⟩
  replace st := st.step hb3
  clear hb3
  obtain ⟨qd, rd, sd⟩ := nd.shape
  obtain ⟨Ld, hLd⟩ : ∃ x, x = (digs W32 1).length := ⟨_, rfl⟩
  rw [← hLd] at sd
  clear hLd
  subst sd
  have hT := PaT.start st neg nd
  clear st nd
  go_wp2_with fail
  obtain ⟨bx, hbx⟩ : ∃ b, b = w3.heap.size := ⟨_, rfl⟩
  obtain ⟨w4, hw4⟩ : ∃ x, x = w3.alloc (Obj.cells #[.bool neg, .slice none 0 0, .slice qd Ld rd] 46) := ⟨_, rfl⟩
  (try rw [← hbx, ← hw4] at hT)
  (try rw [← hbx])
  (try rw [← hw4])
  clear hbx hw4
  refine (D1.out _).mono ?_
  rintro e w5 ⟨rfl, hb5⟩
  replace hT := hT.step hb5
  clear hb5
  obtain ⟨c1, c2, c3, c4, c5, c6, c7, c8, c9⟩ := hT.cells
  have hne : ¬ w.heap.size = bx := by have := hT.2.1; omega
  have hne2 : ¬ bx = w.heap.size := by have := hT.2.1; omega
  go_wp2_with fail
  have hlt := hT.len
  refine bodyPost_ret (v := .tuple #[.agg #[.int .i64 0, .int .i64 0], .int .i64 3]) (by simp [results, Tryd.results6, go_sem, c6, c7]) rfl ⟨rfl, ((hT.fin.setCell (by simp; have := hT.2.1; omega) _).setCell (by simp) _).setCell (by simp) _⟩

set_option maxHeartbeats 1000000 in
theorem parse_e2 (s sR sN sD : ByteArray) (sl : Bool) (w : World) (hs : s.size ≤ 40) (hE : Env w) (CP : Hid (CutC s sR true)) (CC : Hid (SplC sR sN sD sl)) (m : Nat) (D1 : Hid (DigT sN m)) (hl : (digs W32 m).length ≤ 100) (hz : (digs W32 m).length = 0) :
    Calls Tryd.prog 6 #[.string s] w fun e w' => e = RatE (0, 0, 3) ∧ Below w.heap.size w w' := by
  have st := SuI.start w
  have hs2 : (s.size : Int) ≤ 40 := by omega
  have C1 : Hid (∀ wx, Calls Tryd.prog 18 #[.int .u64 1] wx fun e w' => ∃ v, e = .returned v ∧ NatV w' .u32 W32 v 1 ∧ Below wx.heap.size wx w') := Lib.hid (fun wx => word_any 1 wx (by omega))
  go_enter Tryd.func6, Tryd.ntmps6
  go_wp2_with fail
  refine (CP.out _).mono ?_
  rintro e w1 ⟨rfl, rfl⟩
  go_wp2_with fail
  refine (CC.out _ (hE.below st.1)).mono ?_
  rintro e w2 ⟨rfl, hb2⟩
  replace st := st.step hb2
  clear hb2
  go_wp2_with fail
  refine (C1.out _).mono ?_
  rintro e w3 ⟨vd, rfl, nd, hb3⟩
  replace st := st.step hb3
  clear hb3
  obtain ⟨qd, rd, sd⟩ := nd.shape
  obtain ⟨Ld, hLd⟩ : ∃ x, x = (digs W32 1).length := ⟨_, rfl⟩
  rw [← hLd] at sd
  clear hLd
  subst sd
  have hT := PaT.start st true nd
  clear st nd
  go_wp2_with fail
  obtain ⟨bx, hbx⟩ : ∃ b, b = w3.heap.size := ⟨_, rfl⟩
  obtain ⟨w4, hw4⟩ : ∃ x, x = w3.alloc (Obj.cells #[.bool true, .slice none 0 0, .slice qd Ld rd] 46) := ⟨_, rfl⟩
  (try rw [← hbx, ← hw4] at hT)
  (try rw [← hbx])
  (try rw [← hw4])
  clear hbx hw4
  refine (D1.out _).mono ?_
  rintro e w5 ⟨⟨a1, r1, rfl, n1⟩, hb5⟩
  replace hT := hT.step hb5
  clear hb5
  obtain ⟨c1, c2, c3, c4, c5, c6, c7, c8, c9⟩ := hT.cells
  have hne : ¬ w.heap.size = bx := by have := hT.2.1; omega
  have hne2 : ¬ bx = w.heap.size := by have := hT.2.1; omega
  have hU := hT.set1 n1
  have hm1 : ∀ x, x = (digs W32 m).length → PaT w bx true (.slice a1 x r1) (.slice qd Ld rd) m 1 (w5.setCell ⟨bx, 1, none⟩ (.slice a1 x r1)) := by rintro x rfl; exact hU
  obtain ⟨L1, hL1⟩ : ∃ x, x = (digs W32 m).length := ⟨_, rfl⟩
  replace hU := hm1 L1 hL1
  clear hm1
  rw [← hL1] at hl n1
  (try rw [← hL1])
  (try rw [← hL1] at hz)
  clear hL1 hT
  subst hz
  go_wp2_with fail
  refine bodyPost_ret (v := .tuple #[.agg #[.int .i64 0, .int .i64 0], .int .i64 3]) (by simp [results, Tryd.results6, go_sem, c6, c7]) rfl ⟨rfl, (((hU.fin).setCell (by simp) _).setCell (by simp) _)⟩

set_option maxHeartbeats 1000000 in
theorem parse_kt (s sR sN sD : ByteArray) (w : World) (hs : s.size ≤ 40) (hE : Env w) (CP : Hid (CutC s sR true)) (CC : Hid (SplC sR sN sD false)) (m : Nat) (D1 : Hid (DigT sN m)) (hl : (digs W32 m).length ≤ 100) (hz : (digs W32 m).length ≠ 0) :
    Calls Tryd.prog 6 #[.string s] w fun e w' => e = RatE (ratioS true m 1) ∧ Below w.heap.size w w' := by
  have RT : Hid (∀ v wx, FracV wx v true m 1 → Calls Tryd.prog 22 #[v] wx fun e w' => e = RatE (ratioS true m 1) ∧ Below wx.heap.size wx w') := Lib.hid (fun v wx h => ratio_any v true m 1 wx h (by omega) (Nat.le_trans digs_one_len (by omega)) (by omega))
  have st := SuI.start w
  have hs2 : (s.size : Int) ≤ 40 := by omega
  have C1 : Hid (∀ wx, Calls Tryd.prog 18 #[.int .u64 1] wx fun e w' => ∃ v, e = .returned v ∧ NatV w' .u32 W32 v 1 ∧ Below wx.heap.size wx w') := Lib.hid (fun wx => word_any 1 wx (by omega))
  go_enter Tryd.func6, Tryd.ntmps6
  go_wp2_with fail
  refine (CP.out _).mono ?_
  rintro e w1 ⟨rfl, rfl⟩
  go_wp2_with fail
  refine (CC.out _ (hE.below st.1)).mono ?_
  rintro e w2 ⟨rfl, hb2⟩
  replace st := st.step hb2
  clear hb2
  go_wp2_with fail
  refine (C1.out _).mono ?_
  rintro e w3 ⟨vd, rfl, nd, hb3⟩
  replace st := st.step hb3
  clear hb3
  obtain ⟨qd, rd, sd⟩ := nd.shape
  obtain ⟨Ld, hLd⟩ : ∃ x, x = (digs W32 1).length := ⟨_, rfl⟩
  rw [← hLd] at sd
  clear hLd
  subst sd
  have hT := PaT.start st true nd
  clear st nd
  go_wp2_with fail
  obtain ⟨bx, hbx⟩ : ∃ b, b = w3.heap.size := ⟨_, rfl⟩
  obtain ⟨w4, hw4⟩ : ∃ x, x = w3.alloc (Obj.cells #[.bool true, .slice none 0 0, .slice qd Ld rd] 46) := ⟨_, rfl⟩
  (try rw [← hbx, ← hw4] at hT)
  (try rw [← hbx])
  (try rw [← hw4])
  clear hbx hw4
  refine (D1.out _).mono ?_
  rintro e w5 ⟨⟨a1, r1, rfl, n1⟩, hb5⟩
  replace hT := hT.step hb5
  clear hb5
  obtain ⟨c1, c2, c3, c4, c5, c6, c7, c8, c9⟩ := hT.cells
  have hne : ¬ w.heap.size = bx := by have := hT.2.1; omega
  have hne2 : ¬ bx = w.heap.size := by have := hT.2.1; omega
  have hU := hT.set1 n1
  have hm1 : ∀ x, x = (digs W32 m).length → PaT w bx true (.slice a1 x r1) (.slice qd Ld rd) m 1 (w5.setCell ⟨bx, 1, none⟩ (.slice a1 x r1)) := by rintro x rfl; exact hU
  obtain ⟨L1, hL1⟩ : ∃ x, x = (digs W32 m).length := ⟨_, rfl⟩
  replace hU := hm1 L1 hL1
  clear hm1
  rw [← hL1] at hl n1
  (try rw [← hL1])
  (try rw [← hL1] at hz)
  clear hL1 hT
  have hz' : ((L1 : Int) == 0) = false := beq_eq_false_iff_ne.2 (by omega)
  go_wp2_with fail
  refine (RT.out _ _ ⟨_, _, rfl, hU.2.2.2.1, hU.2.2.2.2⟩).mono ?_
  rintro e w9 ⟨he, hb9⟩
  obtain ⟨x1, x2, x3, hx, he'⟩ := RatE_cases he
  subst he'
  have hI9 := hU.1.step hb9
  obtain ⟨k1, k2, k3, k4⟩ := hI9.cells
  clear hb9 RT
  go_wp2
  refine bodyPost_ret (v := .tuple #[.agg #[.int .i64 x1, .int .i64 x2], .int .i64 x3]) (by simp [results, Tryd.results6, go_sem, k1, k2]) rfl ⟨?_, (hI9.1.setCell (by simp) _).setCell (by simp) _⟩
  rw [← hx]
  rfl

set_option maxHeartbeats 1000000 in
theorem parse_kf (s sR sN sD : ByteArray) (w : World) (hs : s.size ≤ 40) (hE : Env w) (CP : Hid (CutC s sR false)) (CC : Hid (SplC sR sN sD false)) (m : Nat) (D1 : Hid (DigT sN m)) (hl : (digs W32 m).length ≤ 100) :
    Calls Tryd.prog 6 #[.string s] w fun e w' => e = RatE (ratioS false m 1) ∧ Below w.heap.size w w' := by
  have RT : Hid (∀ v wx, FracV wx v false m 1 → Calls Tryd.prog 22 #[v] wx fun e w' => e = RatE (ratioS false m 1) ∧ Below wx.heap.size wx w') := Lib.hid (fun v wx h => ratio_any v false m 1 wx h (by omega) (Nat.le_trans digs_one_len (by omega)) (by omega))
  have st := SuI.start w
  have hs2 : (s.size : Int) ≤ 40 := by omega
  have C1 : Hid (∀ wx, Calls Tryd.prog 18 #[.int .u64 1] wx fun e w' => ∃ v, e = .returned v ∧ NatV w' .u32 W32 v 1 ∧ Below wx.heap.size wx w') := Lib.hid (fun wx => word_any 1 wx (by omega))
  go_enter Tryd.func6, Tryd.ntmps6
  go_wp2_with fail
  refine (CP.out _).mono ?_
  rintro e w1 ⟨rfl, rfl⟩
  go_wp2_with fail
  refine (CC.out _ (hE.below st.1)).mono ?_
  rintro e w2 ⟨rfl, hb2⟩
  replace st := st.step hb2
  clear hb2
  go_wp2_with fail
  refine (C1.out _).mono ?_
  rintro e w3 ⟨vd, rfl, nd, hb3⟩
  replace st := st.step hb3
  clear hb3
  obtain ⟨qd, rd, sd⟩ := nd.shape
  obtain ⟨Ld, hLd⟩ : ∃ x, x = (digs W32 1).length := ⟨_, rfl⟩
  rw [← hLd] at sd
  clear hLd
  subst sd
  have hT := PaT.start st false nd
  clear st nd
  go_wp2_with fail
  obtain ⟨bx, hbx⟩ : ∃ b, b = w3.heap.size := ⟨_, rfl⟩
  obtain ⟨w4, hw4⟩ : ∃ x, x = w3.alloc (Obj.cells #[.bool false, .slice none 0 0, .slice qd Ld rd] 46) := ⟨_, rfl⟩
  (try rw [← hbx, ← hw4] at hT)
  (try rw [← hbx])
  (try rw [← hw4])
  clear hbx hw4
  refine (D1.out _).mono ?_
  rintro e w5 ⟨⟨a1, r1, rfl, n1⟩, hb5⟩
  replace hT := hT.step hb5
  clear hb5
  obtain ⟨c1, c2, c3, c4, c5, c6, c7, c8, c9⟩ := hT.cells
  have hne : ¬ w.heap.size = bx := by have := hT.2.1; omega
  have hne2 : ¬ bx = w.heap.size := by have := hT.2.1; omega
  have hU := hT.set1 n1
  have hm1 : ∀ x, x = (digs W32 m).length → PaT w bx false (.slice a1 x r1) (.slice qd Ld rd) m 1 (w5.setCell ⟨bx, 1, none⟩ (.slice a1 x r1)) := by rintro x rfl; exact hU
  obtain ⟨L1, hL1⟩ : ∃ x, x = (digs W32 m).length := ⟨_, rfl⟩
  replace hU := hm1 L1 hL1
  clear hm1
  rw [← hL1] at hl n1
  (try rw [← hL1])
  (try rw [← hL1] at hz)
  clear hL1 hT
  go_wp2_with fail
  refine (RT.out _ _ ⟨_, _, rfl, hU.2.2.2.1, hU.2.2.2.2⟩).mono ?_
  rintro e w9 ⟨he, hb9⟩
  obtain ⟨x1, x2, x3, hx, he'⟩ := RatE_cases he
  subst he'
  have hI9 := hU.1.step hb9
  obtain ⟨k1, k2, k3, k4⟩ := hI9.cells
  clear hb9 RT
  go_wp2
  refine bodyPost_ret (v := .tuple #[.agg #[.int .i64 x1, .int .i64 x2], .int .i64 x3]) (by simp [results, Tryd.results6, go_sem, k1, k2]) rfl ⟨?_, (hI9.1.setCell (by simp) _).setCell (by simp) _⟩
  rw [← hx]
  rfl

theorem PaT.nat1 {w : World} {bx : Nat} {g : Bool} {v1 v2 : Value} {m n : Nat} {w' : World} (h : PaT w bx g v1 v2 m n w') : NatV w' .u32 W32 v1 m := h.2.2.2.1
theorem PaT.nat2 {w : World} {bx : Nat} {g : Bool} {v1 v2 : Value} {m n : Nat} {w' : World} (h : PaT w bx g v1 v2 m n w') : NatV w' .u32 W32 v2 n := h.2.2.2.2

set_option maxHeartbeats 2000000 in
theorem parse_ft (s sR sN sD : ByteArray) (w : World) (hs : s.size ≤ 40) (hE : Env w) (CP : Hid (CutC s sR true)) (CC : Hid (SplC sR sN sD true)) (m : Nat) (D1 : Hid (DigT sN m)) (_hl : (digs W32 m).length ≤ 100) (hz : (digs W32 m).length ≠ 0) (D2 : Hid (DigF sD)) :
    Calls Tryd.prog 6 #[.string s] w fun e w' => e = RatE (0, 0, 3) ∧ Below w.heap.size w w' := by
  have st := SuI.start w
  have hs2 : (s.size : Int) ≤ 40 := by omega
  have C1 : Hid (∀ wx, Calls Tryd.prog 18 #[.int .u64 1] wx fun e w' => ∃ v, e = .returned v ∧ NatV w' .u32 W32 v 1 ∧ Below wx.heap.size wx w') := Lib.hid (fun wx => word_any 1 wx (by omega))
  go_enter Tryd.func6, Tryd.ntmps6
  go_wp2_with fail
  refine (CP.out _).mono ?_
  rintro e w1 ⟨rfl, rfl⟩
  go_wp2_with fail
  refine (CC.out _ (hE.below st.1)).mono ?_
  rintro e w2 ⟨rfl, hb2⟩
  replace st := st.step hb2
  clear hb2
  go_wp2_with fail
  refine (C1.out _).mono ?_
  rintro e w3 ⟨vd, rfl, nd, hb3⟩
  replace st := st.step hb3
  clear hb3
  obtain ⟨qd, rd, sd⟩ := nd.shape
  obtain ⟨Ld, hLd⟩ : ∃ x, x = (digs W32 1).length := ⟨_, rfl⟩
  rw [← hLd] at sd
  clear hLd
  subst sd
  have hT := PaT.start st true nd
  clear st nd
  go_wp2_with fail
  obtain ⟨bx, hbx⟩ : ∃ b, b = w3.heap.size := ⟨_, rfl⟩
  obtain ⟨w4, hw4⟩ : ∃ x, x = w3.alloc (Obj.cells #[.bool true, .slice none 0 0, .slice qd Ld rd] 46) := ⟨_, rfl⟩
  (try rw [← hbx, ← hw4] at hT)
  (try rw [← hbx])
  (try rw [← hw4])
  clear hbx hw4
  refine (D1.out _).mono ?_
  rintro e w5 ⟨⟨a1, r1, rfl, n1⟩, hb5⟩
  replace hT := hT.step hb5
  clear hb5
  obtain ⟨c1, c2, c3, c4, c5, c6, c7, c8, c9⟩ := hT.cells
  have hne : ¬ w.heap.size = bx := by have := hT.2.1; omega
  have hne2 : ¬ bx = w.heap.size := by have := hT.2.1; omega
  have hU := hT.set1 n1
  have hm1 : ∀ x, x = (digs W32 m).length → PaT w bx true (.slice a1 x r1) (.slice qd Ld rd) m 1 (w5.setCell ⟨bx, 1, none⟩ (.slice a1 x r1)) := by rintro x rfl; exact hU
  obtain ⟨L1, hL1⟩ : ∃ x, x = (digs W32 m).length := ⟨_, rfl⟩
  replace hU := hm1 L1 hL1
  clear hm1
  rw [← hL1] at n1
  (try rw [← hL1])
  (try rw [← hL1] at hz)
  clear hL1 hT
  have hz' : ((L1 : Int) == 0) = false := beq_eq_false_iff_ne.2 (by omega)
  go_wp2_with fail
  obtain ⟨w6, hw6⟩ : ∃ x, x = w5.setCell ⟨bx, 1, none⟩ (.slice a1 L1 r1) := ⟨_, rfl⟩
  rw [← hw6] at hU
  rw [← hw6]
  clear hw6 c1 c2 c3 c4 c5 c6 c7 c8 c9 n1
  refine (D2.out _).mono ?_
  rintro e w7 ⟨rfl, hb7⟩
  replace hU := hU.step hb7
  clear hb7
  obtain ⟨c1, c2, c3, c4, c5, c6, c7, c8, c9⟩ := hU.cells
  have hV := hU.set2 (NatV.zero32 _)
  go_upto_region 12 with fail
  obtain ⟨w8, hw8⟩ : ∃ x, x = w7.setCell ⟨bx, 2, none⟩ (.slice none 0 0) := ⟨_, rfl⟩
  rw [← hw8] at hV
  rw [← hw8]
  clear hw8 c1 c2 c3 c4 c5 c6 c7 c8 c9 hU
  obtain ⟨c1, c2, c3, c4, c5, c6, c7, c8, c9⟩ := hV.cells
  go_quiet (fail)
  go_wp2
  have hU := hV
  obtain ⟨k1, k2, k3, k4, k5, k6, k7, k8, k9⟩ := hU.cells
  refine bodyPost_ret (v := .tuple #[.agg #[.int .i64 0, .int .i64 0], .int .i64 3]) (by simp [results, Tryd.results6, go_sem, k6, k7]) rfl ⟨rfl, (((below_drewN hU.fin _).setCell (by simp) _).setCell (by simp) _)⟩

/-- region 12 of Parse where the denominator is no more than 1: what is known of its slots while it runs in whatever order -/
def PgF (w0 : World) (bx : Nat) (g : Bool) (v1 v2 : Value) (m n : Nat) (K : Int) (D : Nat → Bool) (V : Nat → Value) (w : World) : Prop :=
  PaT w0 bx g v1 v2 m n w ∧ (D 0 = true → V 54 = .bool true) ∧ (D 1 = true → V 55 = .bool false) ∧ (D 2 = true → V 56 = .bool false) ∧ (D 3 = true → V 57 = .pointer (some ⟨bx, 2, none⟩)) ∧ (D 4 = true → V 58 = v2) ∧
  (D 5 = true → NatV w .u32 W32 (V 59) 1) ∧ (D 6 = true → V 60 = .int .i64 K) ∧ (D 7 = true → V 61 = .bool true) ∧ (D 8 = true → V 62 = .bool true) ∧ (D 9 = true → V 63 = .bool true) ∧ (D 18 = true → V 72 = .bool true)

set_option maxRecDepth 100000 in
set_option maxHeartbeats 2000000 in
theorem parse_gt (s sR sN sD : ByteArray) (w : World) (hs : s.size ≤ 40) (hE : Env w) (CP : Hid (CutC s sR true)) (CC : Hid (SplC sR sN sD true)) (m : Nat) (D1 : Hid (DigT sN m)) (_hl : (digs W32 m).length ≤ 100) (hz : (digs W32 m).length ≠ 0) (n : Nat) (D2 : Hid (DigT sD n)) (hl2 : (digs W32 n).length ≤ 100) (hn : n ≤ 1) :
    Calls Tryd.prog 6 #[.string s] w fun e w' => e = RatE (0, 0, 3) ∧ Below w.heap.size w w' := by
  obtain ⟨K, hK⟩ : ∃ K, K = cmpN n 1 := ⟨_, rfl⟩
  have hK2 : K ≤ 0 := by rw [hK]; exact cmpN_le hn
  have CM1 : Hid (∀ va vb wx, NatV wx .u32 W32 va n → NatV wx .u32 W32 vb 1 → Calls Tryd.prog 20 #[va, vb] wx fun e w' => e = .returned (.int .i64 K) ∧ Below wx.heap.size wx w') := Lib.hid (fun va vb wx h1 h2 => by
    have h := cmp_any va vb n 1 wx h1 h2 (by omega) (Nat.le_trans digs_one_len (by omega))
    rw [← hK] at h; exact h)
  clear hK hn
  have st := SuI.start w
  have hs2 : (s.size : Int) ≤ 40 := by omega
  have C1 : Hid (∀ wx, Calls Tryd.prog 18 #[.int .u64 1] wx fun e w' => ∃ v, e = .returned v ∧ NatV w' .u32 W32 v 1 ∧ Below wx.heap.size wx w') := Lib.hid (fun wx => word_any 1 wx (by omega))
  go_enter Tryd.func6, Tryd.ntmps6
  go_wp2_with fail
  refine (CP.out _).mono ?_
  rintro e w1 ⟨rfl, rfl⟩
  go_wp2_with fail
  refine (CC.out _ (hE.below st.1)).mono ?_
  rintro e w2 ⟨rfl, hb2⟩
  replace st := st.step hb2
  clear hb2
  go_wp2_with fail
  refine (C1.out _).mono ?_
  rintro e w3 ⟨vd, rfl, nd, hb3⟩
  replace st := st.step hb3
  clear hb3
  obtain ⟨qd, rd, sd⟩ := nd.shape
  obtain ⟨Ld, hLd⟩ : ∃ x, x = (digs W32 1).length := ⟨_, rfl⟩
  rw [← hLd] at sd
  clear hLd
  subst sd
  have hT := PaT.start st true nd
  clear st nd
  go_wp2_with fail
  obtain ⟨bx, hbx⟩ : ∃ b, b = w3.heap.size := ⟨_, rfl⟩
  obtain ⟨w4, hw4⟩ : ∃ x, x = w3.alloc (Obj.cells #[.bool true, .slice none 0 0, .slice qd Ld rd] 46) := ⟨_, rfl⟩
  (try rw [← hbx, ← hw4] at hT)
  (try rw [← hbx])
  (try rw [← hw4])
  clear hbx hw4
  refine (D1.out _).mono ?_
  rintro e w5 ⟨⟨a1, r1, rfl, n1⟩, hb5⟩
  replace hT := hT.step hb5
  clear hb5
  obtain ⟨c1, c2, c3, c4, c5, c6, c7, c8, c9⟩ := hT.cells
  have hne : ¬ w.heap.size = bx := by have := hT.2.1; omega
  have hne2 : ¬ bx = w.heap.size := by have := hT.2.1; omega
  have hU := hT.set1 n1
  have hm1 : ∀ x, x = (digs W32 m).length → PaT w bx true (.slice a1 x r1) (.slice qd Ld rd) m 1 (w5.setCell ⟨bx, 1, none⟩ (.slice a1 x r1)) := by rintro x rfl; exact hU
  obtain ⟨L1, hL1⟩ : ∃ x, x = (digs W32 m).length := ⟨_, rfl⟩
  replace hU := hm1 L1 hL1
  clear hm1
  rw [← hL1] at n1
  (try rw [← hL1])
  (try rw [← hL1] at hz)
  clear hL1 hT
  have hz' : ((L1 : Int) == 0) = false := beq_eq_false_iff_ne.2 (by omega)
  go_wp2_with fail
  obtain ⟨w6, hw6⟩ : ∃ x, x = w5.setCell ⟨bx, 1, none⟩ (.slice a1 L1 r1) := ⟨_, rfl⟩
  rw [← hw6] at hU
  rw [← hw6]
  clear hw6 c1 c2 c3 c4 c5 c6 c7 c8 c9 n1
  refine (D2.out _).mono ?_
  rintro e w7 ⟨⟨a2, r2, rfl, n2⟩, hb7⟩
  replace hU := hU.step hb7
  clear hb7
  obtain ⟨c1, c2, c3, c4, c5, c6, c7, c8, c9⟩ := hU.cells
  have hV := hU.set2 n2
  have hm2 : ∀ x, x = (digs W32 n).length → PaT w bx true (.slice a1 L1 r1) (.slice a2 x r2) m n (w7.setCell ⟨bx, 2, none⟩ (.slice a2 x r2)) := by rintro x rfl; exact hV
  obtain ⟨L2, hL2⟩ : ∃ x, x = (digs W32 n).length := ⟨_, rfl⟩
  replace hV := hm2 L2 hL2
  clear hm2 n2 hl2
  (try rw [← hL2])
  clear hL2
  go_upto_region 12 with fail
  obtain ⟨w8, hw8⟩ : ∃ x, x = w7.setCell ⟨bx, 2, none⟩ (.slice a2 L2 r2) := ⟨_, rfl⟩
  rw [← hw8] at hV
  rw [← hw8]
  clear hw8 c1 c2 c3 c4 c5 c6 c7 c8 c9 hU
  obtain ⟨_, c1, c2, c3⟩ := hV.all
  have hV0 := hV.drew
  refine wp_region_G (by kernel_rfl) [54, 55, 56, 57, 58, 59, 60, 61, 62, 63, 64, 65, 66, 67, 68, 69, 70, 71, 72] (by kernel_rfl) (by intro s hs; simp at hs ⊢; omega) (PgF w bx true (.slice a1 L1 r1) (.slice a2 L2 r2) m n K) ?_ ?_ ?_
  · exact ⟨hV0, by simp, by simp, by simp, by simp, by simp, by simp, by simp, by simp, by simp, by simp, by simp⟩
  · intro i o D V w' ho hF hDi hpre hV
    obtain ⟨f, f0, f1, f2, f3, f4, f5, f6, f7, f8, f9, f18⟩ := hF
    have h10 := hV 10 (by simp)
    have h9 := hV 9 (by simp)
    simp at h10 h9
    obtain ⟨_, z0, z1, z2⟩ := f.all
    rcases i with _ | _ | _ | _ | _ | _ | _ | _ | _ | _ | _ | _ | _ | _ | _ | _ | _ | _ | _ | i
    · simp at ho; subst ho
      simp [Region.wanted, opRun, execOp, evalV, h10, go_sem]
      exact ⟨f, fun _ => rfl, f1, f2, f3, f4, f5, f6, f7, f8, f9, f18⟩
    · simp at ho; subst ho
      simp [Region.binds] at hpre
      have d0 : D 0 = true := (by first | exact hpre | exact hpre.1 | exact hpre.2 | exact hpre.2.1 | exact hpre.2.2 | exact hpre.2.2.1 | exact hpre.2.2.2)
      have e0 := f0 d0
      simp [Region.wanted, opRun, execOp, evalV, e0, go_sem]
      exact ⟨f, f0, fun _ => rfl, f2, f3, f4, f5, f6, f7, f8, f9, f18⟩
    · simp at ho; subst ho
      simp [Region.binds] at hpre
      have d1 : D 1 = true := (by first | exact hpre | exact hpre.1 | exact hpre.2 | exact hpre.2.1 | exact hpre.2.2 | exact hpre.2.2.1 | exact hpre.2.2.2)
      have e1 := f1 d1
      simp [Region.wanted, opRun, execOp, evalV, e1, go_sem]
      exact ⟨f, f0, f1, fun _ => rfl, f3, f4, f5, f6, f7, f8, f9, f18⟩
    · simp at ho; subst ho
      simp [Region.binds] at hpre
      have d2 : D 2 = true := (by first | exact hpre | exact hpre.1 | exact hpre.2 | exact hpre.2.1 | exact hpre.2.2 | exact hpre.2.2.1 | exact hpre.2.2.2)
      have e2 := f2 d2
      simp [Region.wanted, gdV, opRun, execOp, evalV, e2, h9, go_sem]
      exact ⟨f, f0, f1, f2, fun _ => rfl, f4, f5, f6, f7, f8, f9, f18⟩
    · simp at ho; subst ho
      simp [Region.binds] at hpre
      have d2 : D 2 = true := (by first | exact hpre | exact hpre.1 | exact hpre.2 | exact hpre.2.1 | exact hpre.2.2 | exact hpre.2.2.1 | exact hpre.2.2.2)
      have d3 : D 3 = true := (by first | exact hpre | exact hpre.1 | exact hpre.2 | exact hpre.2.1 | exact hpre.2.2 | exact hpre.2.2.1 | exact hpre.2.2.2)
      have e2 := f2 d2
      have e3 := f3 d3
      simp [Region.wanted, gdV, opRun, execOp, evalV, e2, e3, z2, go_sem]
      exact ⟨f, f0, f1, f2, f3, fun _ => rfl, f5, f6, f7, f8, f9, f18⟩
    · simp at ho; subst ho
      simp [Region.binds] at hpre
      have d2 : D 2 = true := (by first | exact hpre | exact hpre.1 | exact hpre.2 | exact hpre.2.1 | exact hpre.2.2 | exact hpre.2.2.1 | exact hpre.2.2.2)
      have e2 := f2 d2
      simp [Region.wanted, gdV, opRun, execOp, evalV, e2, go_sem]
      refine (C1.out _).mono ?_
      rintro e w1 ⟨v, rfl, hv, hb⟩
      exact ⟨v, rfl, f.step hb, f0, f1, f2, f3, f4, fun _ => hv, f6, f7, f8, f9, f18⟩
    · simp at ho; subst ho
      simp [Region.binds] at hpre
      have d2 : D 2 = true := (by first | exact hpre | exact hpre.1 | exact hpre.2 | exact hpre.2.1 | exact hpre.2.2 | exact hpre.2.2.1 | exact hpre.2.2.2)
      have d4 : D 4 = true := (by first | exact hpre | exact hpre.1 | exact hpre.2 | exact hpre.2.1 | exact hpre.2.2 | exact hpre.2.2.1 | exact hpre.2.2.2)
      have d5 : D 5 = true := (by first | exact hpre | exact hpre.1 | exact hpre.2 | exact hpre.2.1 | exact hpre.2.2 | exact hpre.2.2.1 | exact hpre.2.2.2)
      have e2 := f2 d2
      have e4 := f4 d4
      simp [Region.wanted, gdV, opRun, execOp, evalV, e2, e4, go_sem]
      refine (CM1.out _ _ _ f.nat2 (f5 d5)).mono ?_
      rintro e w1 ⟨rfl, hb⟩
      exact ⟨_, rfl, f.step hb, f0, f1, f2, f3, f4, fun h => (f5 h).below hb, fun _ => rfl, f7, f8, f9, f18⟩
    · simp at ho; subst ho
      simp [Region.binds] at hpre
      have d2 : D 2 = true := (by first | exact hpre | exact hpre.1 | exact hpre.2 | exact hpre.2.1 | exact hpre.2.2 | exact hpre.2.2.1 | exact hpre.2.2.2)
      have d6 : D 6 = true := (by first | exact hpre | exact hpre.1 | exact hpre.2 | exact hpre.2.1 | exact hpre.2.2 | exact hpre.2.2.1 | exact hpre.2.2.2)
      have e2 := f2 d2
      have e6 := f6 d6
      simp [Region.wanted, gdV, opRun, execOp, evalV, e2, e6, hK2, go_sem]
      exact ⟨f, f0, f1, f2, f3, f4, f5, f6, fun _ => rfl, f8, f9, f18⟩
    · simp at ho; subst ho
      simp [Region.binds] at hpre
      have d2 : D 2 = true := (by first | exact hpre | exact hpre.1 | exact hpre.2 | exact hpre.2.1 | exact hpre.2.2 | exact hpre.2.2.1 | exact hpre.2.2.2)
      have d7 : D 7 = true := (by first | exact hpre | exact hpre.1 | exact hpre.2 | exact hpre.2.1 | exact hpre.2.2 | exact hpre.2.2.1 | exact hpre.2.2.2)
      have e2 := f2 d2
      have e7 := f7 d7
      simp [Region.wanted, opRun, execOp, evalV, e2, e7, go_sem]
      exact ⟨f, f0, f1, f2, f3, f4, f5, f6, f7, fun _ => rfl, f9, f18⟩
    · simp at ho; subst ho
      simp [Region.binds] at hpre
      have d8 : D 8 = true := (by first | exact hpre | exact hpre.1 | exact hpre.2 | exact hpre.2.1 | exact hpre.2.2 | exact hpre.2.2.1 | exact hpre.2.2.2)
      have e8 := f8 d8
      simp [Region.wanted, opRun, execOp, evalV, e8, go_sem]
      exact ⟨f, f0, f1, f2, f3, f4, f5, f6, f7, f8, fun _ => rfl, f18⟩
    · simp at ho; subst ho
      simp [Region.binds] at hpre
      have d9 : D 9 = true := (by first | exact hpre | exact hpre.1 | exact hpre.2 | exact hpre.2.1 | exact hpre.2.2 | exact hpre.2.2.1 | exact hpre.2.2.2)
      have e9 := f9 d9
      simp [Region.wanted, gdV, e9]
      exact ⟨f, f0, f1, f2, f3, f4, f5, f6, f7, f8, f9, f18⟩
    · simp at ho; subst ho
      simp [Region.binds] at hpre
      have d9 : D 9 = true := (by first | exact hpre | exact hpre.1 | exact hpre.2 | exact hpre.2.1 | exact hpre.2.2 | exact hpre.2.2.1 | exact hpre.2.2.2)
      have e9 := f9 d9
      simp [Region.wanted, gdV, e9]
      exact ⟨f, f0, f1, f2, f3, f4, f5, f6, f7, f8, f9, f18⟩
    · simp at ho; subst ho
      simp [Region.binds] at hpre
      have d9 : D 9 = true := (by first | exact hpre | exact hpre.1 | exact hpre.2 | exact hpre.2.1 | exact hpre.2.2 | exact hpre.2.2.1 | exact hpre.2.2.2)
      have e9 := f9 d9
      simp [Region.wanted, gdV, e9]
      exact ⟨f, f0, f1, f2, f3, f4, f5, f6, f7, f8, f9, f18⟩
    · simp at ho; subst ho
      simp [Region.binds] at hpre
      have d9 : D 9 = true := (by first | exact hpre | exact hpre.1 | exact hpre.2 | exact hpre.2.1 | exact hpre.2.2 | exact hpre.2.2.1 | exact hpre.2.2.2)
      have e9 := f9 d9
      simp [Region.wanted, gdV, e9]
      exact ⟨f, f0, f1, f2, f3, f4, f5, f6, f7, f8, f9, f18⟩
    · simp at ho; subst ho
      simp [Region.binds] at hpre
      have d9 : D 9 = true := (by first | exact hpre | exact hpre.1 | exact hpre.2 | exact hpre.2.1 | exact hpre.2.2 | exact hpre.2.2.1 | exact hpre.2.2.2)
      have e9 := f9 d9
      simp [Region.wanted, gdV, e9]
      exact ⟨f, f0, f1, f2, f3, f4, f5, f6, f7, f8, f9, f18⟩
    · simp at ho; subst ho
      simp [Region.binds] at hpre
      have d9 : D 9 = true := (by first | exact hpre | exact hpre.1 | exact hpre.2 | exact hpre.2.1 | exact hpre.2.2 | exact hpre.2.2.1 | exact hpre.2.2.2)
      have e9 := f9 d9
      simp [Region.wanted, gdV, e9]
      exact ⟨f, f0, f1, f2, f3, f4, f5, f6, f7, f8, f9, f18⟩
    · simp at ho; subst ho
      simp [Region.binds] at hpre
      have d9 : D 9 = true := (by first | exact hpre | exact hpre.1 | exact hpre.2 | exact hpre.2.1 | exact hpre.2.2 | exact hpre.2.2.1 | exact hpre.2.2.2)
      have e9 := f9 d9
      simp [Region.wanted, gdV, e9]
      exact ⟨f, f0, f1, f2, f3, f4, f5, f6, f7, f8, f9, f18⟩
    · simp at ho; subst ho
      simp [Region.binds] at hpre
      have d9 : D 9 = true := (by first | exact hpre | exact hpre.1 | exact hpre.2 | exact hpre.2.1 | exact hpre.2.2 | exact hpre.2.2.1 | exact hpre.2.2.2)
      have e9 := f9 d9
      simp [Region.wanted, gdV, e9]
      exact ⟨f, f0, f1, f2, f3, f4, f5, f6, f7, f8, f9, f18⟩
    · simp at ho; subst ho
      simp [Region.binds] at hpre
      have d9 : D 9 = true := (by first | exact hpre | exact hpre.1 | exact hpre.2 | exact hpre.2.1 | exact hpre.2.2 | exact hpre.2.2.1 | exact hpre.2.2.2)
      have e9 := f9 d9
      simp [Region.wanted, opRun, execOp, evalV, e9, go_sem]
      exact ⟨f, f0, f1, f2, f3, f4, f5, f6, f7, f8, f9, fun _ => rfl⟩
    · simp at ho
  · intro D V w' hF hall
    obtain ⟨f, f0, f1, f2, f3, f4, f5, f6, f7, f8, f9, f18⟩ := hF
    clear f0 f1 f2 f3 f4 f5 f6 f7 f8 f9
    have hv := f18 (hall 18 (by decide))
    simp only [putAll, List.foldl_cons, List.foldl_nil, hv]
    clear hv f18 hall hV0 c1 c2 c3 hV
    obtain ⟨k1, k2, k3, k4, k5, k6, k7, k8, k9⟩ := f.cells
    have hU : Hid (PaT w bx true (.slice a1 L1 r1) (.slice a2 L2 r2) m n w') := Lib.hid f
    clear f
    simp only [Act.put, List.setIfInBounds_toArray, List.set_cons_succ, List.set_cons_zero]
    go_wp2
    refine bodyPost_ret (v := .tuple #[.agg #[.int .i64 0, .int .i64 0], .int .i64 3]) (by simp [results, Tryd.results6, go_sem, k6, k7]) rfl ⟨rfl, (((hU.out.fin).setCell (by simp) _).setCell (by simp) _)⟩

set_option maxHeartbeats 2000000 in
theorem parse_ht (s sR sN sD : ByteArray) (w : World) (hs : s.size ≤ 40) (hE : Env w) (CP : Hid (CutC s sR true)) (CC : Hid (SplC sR sN sD true)) (m : Nat) (D1 : Hid (DigT sN m)) (hl : (digs W32 m).length ≤ 100) (hz : (digs W32 m).length ≠ 0) (n : Nat) (D2 : Hid (DigT sD n)) (hl2 : (digs W32 n).length ≤ 100) (hn : 1 < n) (hg : Nat.gcd m n ≠ 1) :
    Calls Tryd.prog 6 #[.string s] w fun e w' => e = RatE (0, 0, 3) ∧ Below w.heap.size w w' := by
  obtain ⟨K2, hK⟩ : ∃ K, K = cmpN (Nat.gcd m n) 1 := ⟨_, rfl⟩
  have hK2 : (K2 == 0) = false := by
    refine beq_eq_false_iff_ne.2 ?_
    rw [hK]
    unfold cmpN
    split
    · omega
    · split
      · omega
      · omega
  have hK3 : ¬ K2 = 0 := beq_eq_false_iff_ne.1 hK2
  have CM1 : Hid (∀ va vb wx, NatV wx .u32 W32 va n → NatV wx .u32 W32 vb 1 → Calls Tryd.prog 20 #[va, vb] wx fun e w' => e = .returned (.int .i64 1) ∧ Below wx.heap.size wx w') := Lib.hid (fun va vb wx h1 h2 => by
    have h := cmp_any va vb n 1 wx h1 h2 (by omega) (Nat.le_trans digs_one_len (by omega))
    rw [cmpN_gt hn] at h; exact h)
  have HG : (digs W32 (Nat.gcd m n)).length ≤ 10000 := gcd_len m n (by omega) (by omega)
  have DV : Hid (∀ va vb wx, NatV wx .u32 W32 va m → NatV wx .u32 W32 vb n → Calls Tryd.prog 21 #[va, vb] wx fun e w' => ∃ v, e = .returned v ∧ NatV w' .u32 W32 v (Nat.gcd m n) ∧ Below wx.heap.size wx w') := Lib.hid (fun va vb wx h1 h2 => divisor_any va vb m n wx h1 h2 (by omega) (by omega))
  have CM2 : Hid (∀ va vb wx, NatV wx .u32 W32 va (Nat.gcd m n) → NatV wx .u32 W32 vb 1 → Calls Tryd.prog 20 #[va, vb] wx fun e w' => e = .returned (.int .i64 K2) ∧ Below wx.heap.size wx w') := Lib.hid (fun va vb wx h1 h2 => by
    have h := cmp_any va vb (Nat.gcd m n) 1 wx h1 h2 (by omega) (Nat.le_trans digs_one_len (by omega))
    rw [← hK] at h; exact h)
  obtain ⟨G, hG⟩ : ∃ G, G = Nat.gcd m n := ⟨_, rfl⟩
  rw [← hG] at DV CM2
  clear hG HG
  clear hK hn hg
  have st := SuI.start w
  have hs2 : (s.size : Int) ≤ 40 := by omega
  have C1 : Hid (∀ wx, Calls Tryd.prog 18 #[.int .u64 1] wx fun e w' => ∃ v, e = .returned v ∧ NatV w' .u32 W32 v 1 ∧ Below wx.heap.size wx w') := Lib.hid (fun wx => word_any 1 wx (by omega))
  go_enter Tryd.func6, Tryd.ntmps6
  go_wp2_with fail
  refine (CP.out _).mono ?_
  rintro e w1 ⟨rfl, rfl⟩
  go_wp2_with fail
  refine (CC.out _ (hE.below st.1)).mono ?_
  rintro e w2 ⟨rfl, hb2⟩
  replace st := st.step hb2
  clear hb2
  go_wp2_with fail
  refine (C1.out _).mono ?_
  rintro e w3 ⟨vd, rfl, nd, hb3⟩
  replace st := st.step hb3
  clear hb3
  obtain ⟨qd, rd, sd⟩ := nd.shape
  obtain ⟨Ld, hLd⟩ : ∃ x, x = (digs W32 1).length := ⟨_, rfl⟩
  rw [← hLd] at sd
  clear hLd
  subst sd
  have hT := PaT.start st true nd
  clear st nd
  go_wp2_with fail
  obtain ⟨bx, hbx⟩ : ∃ b, b = w3.heap.size := ⟨_, rfl⟩
  obtain ⟨w4, hw4⟩ : ∃ x, x = w3.alloc (Obj.cells #[.bool true, .slice none 0 0, .slice qd Ld rd] 46) := ⟨_, rfl⟩
  (try rw [← hbx, ← hw4] at hT)
  (try rw [← hbx])
  (try rw [← hw4])
  clear hbx hw4
  refine (D1.out _).mono ?_
  rintro e w5 ⟨⟨a1, r1, rfl, n1⟩, hb5⟩
  replace hT := hT.step hb5
  clear hb5
  obtain ⟨c1, c2, c3, c4, c5, c6, c7, c8, c9⟩ := hT.cells
  have hne : ¬ w.heap.size = bx := by have := hT.2.1; omega
  have hne2 : ¬ bx = w.heap.size := by have := hT.2.1; omega
  have hU := hT.set1 n1
  have hm1 : ∀ x, x = (digs W32 m).length → PaT w bx true (.slice a1 x r1) (.slice qd Ld rd) m 1 (w5.setCell ⟨bx, 1, none⟩ (.slice a1 x r1)) := by rintro x rfl; exact hU
  obtain ⟨L1, hL1⟩ : ∃ x, x = (digs W32 m).length := ⟨_, rfl⟩
  replace hU := hm1 L1 hL1
  clear hm1
  rw [← hL1] at hl n1
  (try rw [← hL1])
  (try rw [← hL1] at hz)
  clear hL1 hT
  have hz' : ((L1 : Int) == 0) = false := beq_eq_false_iff_ne.2 (by omega)
  go_wp2_with fail
  obtain ⟨w6, hw6⟩ : ∃ x, x = w5.setCell ⟨bx, 1, none⟩ (.slice a1 L1 r1) := ⟨_, rfl⟩
  rw [← hw6] at hU
  rw [← hw6]
  clear hw6 c1 c2 c3 c4 c5 c6 c7 c8 c9 n1
  refine (D2.out _).mono ?_
  rintro e w7 ⟨⟨a2, r2, rfl, n2⟩, hb7⟩
  replace hU := hU.step hb7
  clear hb7
  obtain ⟨c1, c2, c3, c4, c5, c6, c7, c8, c9⟩ := hU.cells
  have hV := hU.set2 n2
  have hm2 : ∀ x, x = (digs W32 n).length → PaT w bx true (.slice a1 L1 r1) (.slice a2 x r2) m n (w7.setCell ⟨bx, 2, none⟩ (.slice a2 x r2)) := by rintro x rfl; exact hV
  obtain ⟨L2, hL2⟩ : ∃ x, x = (digs W32 n).length := ⟨_, rfl⟩
  replace hV := hm2 L2 hL2
  clear hm2 n2 hl2
  (try rw [← hL2])
  clear hL2
  go_upto_region 12 with fail
  obtain ⟨w8, hw8⟩ : ∃ x, x = w7.setCell ⟨bx, 2, none⟩ (.slice a2 L2 r2) := ⟨_, rfl⟩
  rw [← hw8] at hV
  rw [← hw8]
  clear hw8 c1 c2 c3 c4 c5 c6 c7 c8 c9 hU
  obtain ⟨_, c1, c2, c3⟩ := hV.all
  have hV0 := hV.drew
  go_region_held3 (fun w' => PaT w bx true (.slice a1 L1 r1) (.slice a2 L2 r2) m n w' ∧ w'.cell? ⟨bx, 0, none⟩ = some (.bool true) ∧ w'.cell? ⟨bx, 1, none⟩ = some (.slice a1 L1 r1) ∧ w'.cell? ⟨bx, 2, none⟩ = some (.slice a2 L2 r2)) (first | exact PaT.all (by assumption))
    (first
      | (go_at_call 18; (with_reducible refine (C1.out _).mono ?_); rintro e w9 ⟨v9, rfl, n9, hb9⟩; have hV1 := hV0.step hb9; have d1 := hV1.nat2)
      | (go_at_call 20; (with_reducible refine (CM1.out _ _ _ d1 n9).mono ?_); rintro e w10 ⟨rfl, hb10⟩; have hV2 := hV1.step hb10; have d2 := hV2.nat1; have d3 := hV2.nat2)
      | (go_at_call 21; (with_reducible refine (DV.out _ _ _ d2 d3).mono ?_); rintro e w11 ⟨v11, rfl, n11, hb11⟩; have hV3 := hV2.step hb11; obtain ⟨a11, c11, e11⟩ := n11.shape; subst e11)
      | (go_at_call 18; (with_reducible refine (C1.out _).mono ?_); rintro e w12 ⟨v12, rfl, n12, hb12⟩; have hV4 := hV3.step hb12; have n13 := n11.below hb12)
      | (go_at_call 20; (with_reducible refine (CM2.out _ _ _ n13 n12).mono ?_); rintro e w13 ⟨rfl, hb13⟩; have hV5 := hV4.step hb13))
  all_goals have hU := hV5
  all_goals obtain ⟨k1, k2, k3, k4, k5, k6, k7, k8, k9⟩ := hU.cells
  all_goals go_wp2
  all_goals refine bodyPost_ret (v := .tuple #[.agg #[.int .i64 0, .int .i64 0], .int .i64 3]) (by simp [results, Tryd.results6, go_sem, k6, k7]) rfl ⟨rfl, (((hU.fin).setCell (by simp) _).setCell (by simp) _)⟩

set_option maxHeartbeats 2000000 in
theorem parse_mt (s sR sN sD : ByteArray) (w : World) (hs : s.size ≤ 40) (hE : Env w) (CP : Hid (CutC s sR true)) (CC : Hid (SplC sR sN sD true)) (m : Nat) (D1 : Hid (DigT sN m)) (hl : (digs W32 m).length ≤ 100) (hz : (digs W32 m).length ≠ 0) (n : Nat) (D2 : Hid (DigT sD n)) (hl2 : (digs W32 n).length ≤ 100) (hn : 1 < n) (hg : Nat.gcd m n = 1) :
    Calls Tryd.prog 6 #[.string s] w fun e w' => e = RatE (ratioS true m n) ∧ Below w.heap.size w w' := by
  have RT : Hid (∀ v wx, FracV wx v true m n → Calls Tryd.prog 22 #[v] wx fun e w' => e = RatE (ratioS true m n) ∧ Below wx.heap.size wx w') := Lib.hid (fun v wx h => ratio_any v true m n wx h (by omega) (by omega) (by omega))
  have CM1 : Hid (∀ va vb wx, NatV wx .u32 W32 va n → NatV wx .u32 W32 vb 1 → Calls Tryd.prog 20 #[va, vb] wx fun e w' => e = .returned (.int .i64 1) ∧ Below wx.heap.size wx w') := Lib.hid (fun va vb wx h1 h2 => by
    have h := cmp_any va vb n 1 wx h1 h2 (by omega) (Nat.le_trans digs_one_len (by omega))
    rw [cmpN_gt hn] at h; exact h)
  have HG : (digs W32 (Nat.gcd m n)).length ≤ 10000 := gcd_len m n (by omega) (by omega)
  have DV : Hid (∀ va vb wx, NatV wx .u32 W32 va m → NatV wx .u32 W32 vb n → Calls Tryd.prog 21 #[va, vb] wx fun e w' => ∃ v, e = .returned v ∧ NatV w' .u32 W32 v (Nat.gcd m n) ∧ Below wx.heap.size wx w') := Lib.hid (fun va vb wx h1 h2 => divisor_any va vb m n wx h1 h2 (by omega) (by omega))
  have CM2 : Hid (∀ va vb wx, NatV wx .u32 W32 va (Nat.gcd m n) → NatV wx .u32 W32 vb 1 → Calls Tryd.prog 20 #[va, vb] wx fun e w' => e = .returned (.int .i64 0) ∧ Below wx.heap.size wx w') := Lib.hid (fun va vb wx h1 h2 => by
    have h := cmp_any va vb (Nat.gcd m n) 1 wx h1 h2 (by omega) (Nat.le_trans digs_one_len (by omega))
    rw [hg, cmpN_eq] at h; exact h)
  obtain ⟨G, hG⟩ : ∃ G, G = Nat.gcd m n := ⟨_, rfl⟩
  rw [← hG] at DV CM2
  clear hG HG
  clear hn hg
  have st := SuI.start w
  have hs2 : (s.size : Int) ≤ 40 := by omega
  have C1 : Hid (∀ wx, Calls Tryd.prog 18 #[.int .u64 1] wx fun e w' => ∃ v, e = .returned v ∧ NatV w' .u32 W32 v 1 ∧ Below wx.heap.size wx w') := Lib.hid (fun wx => word_any 1 wx (by omega))
  go_enter Tryd.func6, Tryd.ntmps6
  go_wp2_with fail
  refine (CP.out _).mono ?_
  rintro e w1 ⟨rfl, rfl⟩
  go_wp2_with fail
  refine (CC.out _ (hE.below st.1)).mono ?_
  rintro e w2 ⟨rfl, hb2⟩
  replace st := st.step hb2
  clear hb2
  go_wp2_with fail
  refine (C1.out _).mono ?_
  rintro e w3 ⟨vd, rfl, nd, hb3⟩
  replace st := st.step hb3
  clear hb3
  obtain ⟨qd, rd, sd⟩ := nd.shape
  obtain ⟨Ld, hLd⟩ : ∃ x, x = (digs W32 1).length := ⟨_, rfl⟩
  rw [← hLd] at sd
  clear hLd
  subst sd
  have hT := PaT.start st true nd
  clear st nd
  go_wp2_with fail
  obtain ⟨bx, hbx⟩ : ∃ b, b = w3.heap.size := ⟨_, rfl⟩
  obtain ⟨w4, hw4⟩ : ∃ x, x = w3.alloc (Obj.cells #[.bool true, .slice none 0 0, .slice qd Ld rd] 46) := ⟨_, rfl⟩
  (try rw [← hbx, ← hw4] at hT)
  (try rw [← hbx])
  (try rw [← hw4])
  clear hbx hw4
  refine (D1.out _).mono ?_
  rintro e w5 ⟨⟨a1, r1, rfl, n1⟩, hb5⟩
  replace hT := hT.step hb5
  clear hb5
  obtain ⟨c1, c2, c3, c4, c5, c6, c7, c8, c9⟩ := hT.cells
  have hne : ¬ w.heap.size = bx := by have := hT.2.1; omega
  have hne2 : ¬ bx = w.heap.size := by have := hT.2.1; omega
  have hU := hT.set1 n1
  have hm1 : ∀ x, x = (digs W32 m).length → PaT w bx true (.slice a1 x r1) (.slice qd Ld rd) m 1 (w5.setCell ⟨bx, 1, none⟩ (.slice a1 x r1)) := by rintro x rfl; exact hU
  obtain ⟨L1, hL1⟩ : ∃ x, x = (digs W32 m).length := ⟨_, rfl⟩
  replace hU := hm1 L1 hL1
  clear hm1
  rw [← hL1] at hl n1
  (try rw [← hL1])
  (try rw [← hL1] at hz)
  clear hL1 hT
  have hz' : ((L1 : Int) == 0) = false := beq_eq_false_iff_ne.2 (by omega)
  go_wp2_with fail
  obtain ⟨w6, hw6⟩ : ∃ x, x = w5.setCell ⟨bx, 1, none⟩ (.slice a1 L1 r1) := ⟨_, rfl⟩
  rw [← hw6] at hU
  rw [← hw6]
  clear hw6 c1 c2 c3 c4 c5 c6 c7 c8 c9 n1
  refine (D2.out _).mono ?_
  rintro e w7 ⟨⟨a2, r2, rfl, n2⟩, hb7⟩
  replace hU := hU.step hb7
  clear hb7
  obtain ⟨c1, c2, c3, c4, c5, c6, c7, c8, c9⟩ := hU.cells
  have hV := hU.set2 n2
  have hm2 : ∀ x, x = (digs W32 n).length → PaT w bx true (.slice a1 L1 r1) (.slice a2 x r2) m n (w7.setCell ⟨bx, 2, none⟩ (.slice a2 x r2)) := by rintro x rfl; exact hV
  obtain ⟨L2, hL2⟩ : ∃ x, x = (digs W32 n).length := ⟨_, rfl⟩
  replace hV := hm2 L2 hL2
  clear hm2 n2 hl2
  (try rw [← hL2])
  clear hL2
  go_upto_region 12 with fail
  obtain ⟨w8, hw8⟩ : ∃ x, x = w7.setCell ⟨bx, 2, none⟩ (.slice a2 L2 r2) := ⟨_, rfl⟩
  rw [← hw8] at hV
  rw [← hw8]
  clear hw8 c1 c2 c3 c4 c5 c6 c7 c8 c9 hU
  obtain ⟨_, c1, c2, c3⟩ := hV.all
  have hV0 := hV.drew
  go_region_held3 (fun w' => PaT w bx true (.slice a1 L1 r1) (.slice a2 L2 r2) m n w' ∧ w'.cell? ⟨bx, 0, none⟩ = some (.bool true) ∧ w'.cell? ⟨bx, 1, none⟩ = some (.slice a1 L1 r1) ∧ w'.cell? ⟨bx, 2, none⟩ = some (.slice a2 L2 r2)) (first | exact PaT.all (by assumption))
    (first
      | (go_at_call 18; (with_reducible refine (C1.out _).mono ?_); rintro e w9 ⟨v9, rfl, n9, hb9⟩; have hV1 := hV0.step hb9; have d1 := hV1.nat2)
      | (go_at_call 20; (with_reducible refine (CM1.out _ _ _ d1 n9).mono ?_); rintro e w10 ⟨rfl, hb10⟩; have hV2 := hV1.step hb10; have d2 := hV2.nat1; have d3 := hV2.nat2)
      | (go_at_call 21; (with_reducible refine (DV.out _ _ _ d2 d3).mono ?_); rintro e w11 ⟨v11, rfl, n11, hb11⟩; have hV3 := hV2.step hb11; obtain ⟨a11, c11, e11⟩ := n11.shape; subst e11)
      | (go_at_call 18; (with_reducible refine (C1.out _).mono ?_); rintro e w12 ⟨v12, rfl, n12, hb12⟩; have hV4 := hV3.step hb12; have n13 := n11.below hb12)
      | (go_at_call 20; (with_reducible refine (CM2.out _ _ _ n13 n12).mono ?_); rintro e w13 ⟨rfl, hb13⟩; have hV5 := hV4.step hb13))
  all_goals obtain ⟨_, z1, z2, z3⟩ := hV5.all
  all_goals go_wp2_with fail
  all_goals refine (RT.out _ _ ⟨_, _, rfl, hV5.2.2.2.1, hV5.2.2.2.2⟩).mono ?_
  all_goals rintro e w9 ⟨he, hb9⟩
  all_goals obtain ⟨x1, x2, x3, hx, he'⟩ := RatE_cases he
  all_goals subst he'
  all_goals have hI9 := hV5.1.step hb9
  all_goals obtain ⟨k1, k2, k3, k4⟩ := hI9.cells
  all_goals clear hb9 RT
  all_goals go_wp2
  all_goals refine bodyPost_ret (v := .tuple #[.agg #[.int .i64 x1, .int .i64 x2], .int .i64 x3]) (by simp [results, Tryd.results6, go_sem, k1, k2]) rfl ⟨?_, (hI9.1.setCell (by simp) _).setCell (by simp) _⟩
  all_goals rw [← hx]
  all_goals rfl

set_option maxHeartbeats 2000000 in
theorem parse_ff (s sR sN sD : ByteArray) (w : World) (hs : s.size ≤ 40) (hE : Env w) (CP : Hid (CutC s sR false)) (CC : Hid (SplC sR sN sD true)) (m : Nat) (D1 : Hid (DigT sN m)) (_hl : (digs W32 m).length ≤ 100) (D2 : Hid (DigF sD)) :
    Calls Tryd.prog 6 #[.string s] w fun e w' => e = RatE (0, 0, 3) ∧ Below w.heap.size w w' := by
  have st := SuI.start w
  have hs2 : (s.size : Int) ≤ 40 := by omega
  have C1 : Hid (∀ wx, Calls Tryd.prog 18 #[.int .u64 1] wx fun e w' => ∃ v, e = .returned v ∧ NatV w' .u32 W32 v 1 ∧ Below wx.heap.size wx w') := Lib.hid (fun wx => word_any 1 wx (by omega))
  go_enter Tryd.func6, Tryd.ntmps6
  go_wp2_with fail
  refine (CP.out _).mono ?_
  rintro e w1 ⟨rfl, rfl⟩
  go_wp2_with fail
  refine (CC.out _ (hE.below st.1)).mono ?_
  rintro e w2 ⟨rfl, hb2⟩
  replace st := st.step hb2
  clear hb2
  go_wp2_with fail
  refine (C1.out _).mono ?_
  rintro e w3 ⟨vd, rfl, nd, hb3⟩
  replace st := st.step hb3
  clear hb3
  obtain ⟨qd, rd, sd⟩ := nd.shape
  obtain ⟨Ld, hLd⟩ : ∃ x, x = (digs W32 1).length := ⟨_, rfl⟩
  rw [← hLd] at sd
  clear hLd
  subst sd
  have hT := PaT.start st false nd
  clear st nd
  go_wp2_with fail
  obtain ⟨bx, hbx⟩ : ∃ b, b = w3.heap.size := ⟨_, rfl⟩
  obtain ⟨w4, hw4⟩ : ∃ x, x = w3.alloc (Obj.cells #[.bool false, .slice none 0 0, .slice qd Ld rd] 46) := ⟨_, rfl⟩
  (try rw [← hbx, ← hw4] at hT)
  (try rw [← hbx])
  (try rw [← hw4])
  clear hbx hw4
  refine (D1.out _).mono ?_
  rintro e w5 ⟨⟨a1, r1, rfl, n1⟩, hb5⟩
  replace hT := hT.step hb5
  clear hb5
  obtain ⟨c1, c2, c3, c4, c5, c6, c7, c8, c9⟩ := hT.cells
  have hne : ¬ w.heap.size = bx := by have := hT.2.1; omega
  have hne2 : ¬ bx = w.heap.size := by have := hT.2.1; omega
  have hU := hT.set1 n1
  have hm1 : ∀ x, x = (digs W32 m).length → PaT w bx false (.slice a1 x r1) (.slice qd Ld rd) m 1 (w5.setCell ⟨bx, 1, none⟩ (.slice a1 x r1)) := by rintro x rfl; exact hU
  obtain ⟨L1, hL1⟩ : ∃ x, x = (digs W32 m).length := ⟨_, rfl⟩
  replace hU := hm1 L1 hL1
  clear hm1
  rw [← hL1] at n1
  (try rw [← hL1])
  (try rw [← hL1] at hz)
  clear hL1 hT
  go_wp2_with fail
  obtain ⟨w6, hw6⟩ : ∃ x, x = w5.setCell ⟨bx, 1, none⟩ (.slice a1 L1 r1) := ⟨_, rfl⟩
  rw [← hw6] at hU
  rw [← hw6]
  clear hw6 c1 c2 c3 c4 c5 c6 c7 c8 c9 n1
  refine (D2.out _).mono ?_
  rintro e w7 ⟨rfl, hb7⟩
  replace hU := hU.step hb7
  clear hb7
  obtain ⟨c1, c2, c3, c4, c5, c6, c7, c8, c9⟩ := hU.cells
  have hV := hU.set2 (NatV.zero32 _)
  go_upto_region 12 with fail
  obtain ⟨w8, hw8⟩ : ∃ x, x = w7.setCell ⟨bx, 2, none⟩ (.slice none 0 0) := ⟨_, rfl⟩
  rw [← hw8] at hV
  rw [← hw8]
  clear hw8 c1 c2 c3 c4 c5 c6 c7 c8 c9 hU
  obtain ⟨c1, c2, c3, c4, c5, c6, c7, c8, c9⟩ := hV.cells
  go_quiet (fail)
  go_wp2
  have hU := hV
  obtain ⟨k1, k2, k3, k4, k5, k6, k7, k8, k9⟩ := hU.cells
  refine bodyPost_ret (v := .tuple #[.agg #[.int .i64 0, .int .i64 0], .int .i64 3]) (by simp [results, Tryd.results6, go_sem, k6, k7]) rfl ⟨rfl, (((below_drewN hU.fin _).setCell (by simp) _).setCell (by simp) _)⟩

set_option maxRecDepth 100000 in
set_option maxHeartbeats 2000000 in
theorem parse_gf (s sR sN sD : ByteArray) (w : World) (hs : s.size ≤ 40) (hE : Env w) (CP : Hid (CutC s sR false)) (CC : Hid (SplC sR sN sD true)) (m : Nat) (D1 : Hid (DigT sN m)) (_hl : (digs W32 m).length ≤ 100) (n : Nat) (D2 : Hid (DigT sD n)) (hl2 : (digs W32 n).length ≤ 100) (hn : n ≤ 1) :
    Calls Tryd.prog 6 #[.string s] w fun e w' => e = RatE (0, 0, 3) ∧ Below w.heap.size w w' := by
  obtain ⟨K, hK⟩ : ∃ K, K = cmpN n 1 := ⟨_, rfl⟩
  have hK2 : K ≤ 0 := by rw [hK]; exact cmpN_le hn
  have CM1 : Hid (∀ va vb wx, NatV wx .u32 W32 va n → NatV wx .u32 W32 vb 1 → Calls Tryd.prog 20 #[va, vb] wx fun e w' => e = .returned (.int .i64 K) ∧ Below wx.heap.size wx w') := Lib.hid (fun va vb wx h1 h2 => by
    have h := cmp_any va vb n 1 wx h1 h2 (by omega) (Nat.le_trans digs_one_len (by omega))
    rw [← hK] at h; exact h)
  clear hK hn
  have st := SuI.start w
  have hs2 : (s.size : Int) ≤ 40 := by omega
  have C1 : Hid (∀ wx, Calls Tryd.prog 18 #[.int .u64 1] wx fun e w' => ∃ v, e = .returned v ∧ NatV w' .u32 W32 v 1 ∧ Below wx.heap.size wx w') := Lib.hid (fun wx => word_any 1 wx (by omega))
  go_enter Tryd.func6, Tryd.ntmps6
  go_wp2_with fail
  refine (CP.out _).mono ?_
  rintro e w1 ⟨rfl, rfl⟩
  go_wp2_with fail
  refine (CC.out _ (hE.below st.1)).mono ?_
  rintro e w2 ⟨rfl, hb2⟩
  replace st := st.step hb2
  clear hb2
  go_wp2_with fail
  refine (C1.out _).mono ?_
  rintro e w3 ⟨vd, rfl, nd, hb3⟩
  replace st := st.step hb3
  clear hb3
  obtain ⟨qd, rd, sd⟩ := nd.shape
  obtain ⟨Ld, hLd⟩ : ∃ x, x = (digs W32 1).length := ⟨_, rfl⟩
  rw [← hLd] at sd
  clear hLd
  subst sd
  have hT := PaT.start st false nd
  clear st nd
  go_wp2_with fail
  obtain ⟨bx, hbx⟩ : ∃ b, b = w3.heap.size := ⟨_, rfl⟩
  obtain ⟨w4, hw4⟩ : ∃ x, x = w3.alloc (Obj.cells #[.bool false, .slice none 0 0, .slice qd Ld rd] 46) := ⟨_, rfl⟩
  (try rw [← hbx, ← hw4] at hT)
  (try rw [← hbx])
  (try rw [← hw4])
  clear hbx hw4
  refine (D1.out _).mono ?_
  rintro e w5 ⟨⟨a1, r1, rfl, n1⟩, hb5⟩
  replace hT := hT.step hb5
  clear hb5
  obtain ⟨c1, c2, c3, c4, c5, c6, c7, c8, c9⟩ := hT.cells
  have hne : ¬ w.heap.size = bx := by have := hT.2.1; omega
  have hne2 : ¬ bx = w.heap.size := by have := hT.2.1; omega
  have hU := hT.set1 n1
  have hm1 : ∀ x, x = (digs W32 m).length → PaT w bx false (.slice a1 x r1) (.slice qd Ld rd) m 1 (w5.setCell ⟨bx, 1, none⟩ (.slice a1 x r1)) := by rintro x rfl; exact hU
  obtain ⟨L1, hL1⟩ : ∃ x, x = (digs W32 m).length := ⟨_, rfl⟩
  replace hU := hm1 L1 hL1
  clear hm1
  rw [← hL1] at n1
  (try rw [← hL1])
  (try rw [← hL1] at hz)
  clear hL1 hT
  go_wp2_with fail
  obtain ⟨w6, hw6⟩ : ∃ x, x = w5.setCell ⟨bx, 1, none⟩ (.slice a1 L1 r1) := ⟨_, rfl⟩
  rw [← hw6] at hU
  rw [← hw6]
  clear hw6 c1 c2 c3 c4 c5 c6 c7 c8 c9 n1
  refine (D2.out _).mono ?_
  rintro e w7 ⟨⟨a2, r2, rfl, n2⟩, hb7⟩
  replace hU := hU.step hb7
  clear hb7
  obtain ⟨c1, c2, c3, c4, c5, c6, c7, c8, c9⟩ := hU.cells
  have hV := hU.set2 n2
  have hm2 : ∀ x, x = (digs W32 n).length → PaT w bx false (.slice a1 L1 r1) (.slice a2 x r2) m n (w7.setCell ⟨bx, 2, none⟩ (.slice a2 x r2)) := by rintro x rfl; exact hV
  obtain ⟨L2, hL2⟩ : ∃ x, x = (digs W32 n).length := ⟨_, rfl⟩
  replace hV := hm2 L2 hL2
  clear hm2 n2 hl2
  (try rw [← hL2])
  clear hL2
  go_upto_region 12 with fail
  obtain ⟨w8, hw8⟩ : ∃ x, x = w7.setCell ⟨bx, 2, none⟩ (.slice a2 L2 r2) := ⟨_, rfl⟩
  rw [← hw8] at hV
  rw [← hw8]
  clear hw8 c1 c2 c3 c4 c5 c6 c7 c8 c9 hU
  obtain ⟨_, c1, c2, c3⟩ := hV.all
  have hV0 := hV.drew
  refine wp_region_G (by kernel_rfl) [54, 55, 56, 57, 58, 59, 60, 61, 62, 63, 64, 65, 66, 67, 68, 69, 70, 71, 72] (by kernel_rfl) (by intro s hs; simp at hs ⊢; omega) (PgF w bx false (.slice a1 L1 r1) (.slice a2 L2 r2) m n K) ?_ ?_ ?_
  · exact ⟨hV0, by simp, by simp, by simp, by simp, by simp, by simp, by simp, by simp, by simp, by simp, by simp⟩
  · intro i o D V w' ho hF hDi hpre hV
    obtain ⟨f, f0, f1, f2, f3, f4, f5, f6, f7, f8, f9, f18⟩ := hF
    have h10 := hV 10 (by simp)
    have h9 := hV 9 (by simp)
    simp at h10 h9
    obtain ⟨_, z0, z1, z2⟩ := f.all
    rcases i with _ | _ | _ | _ | _ | _ | _ | _ | _ | _ | _ | _ | _ | _ | _ | _ | _ | _ | _ | i
    · simp at ho; subst ho
      simp [Region.wanted, opRun, execOp, evalV, h10, go_sem]
      exact ⟨f, fun _ => rfl, f1, f2, f3, f4, f5, f6, f7, f8, f9, f18⟩
    · simp at ho; subst ho
      simp [Region.binds] at hpre
      have d0 : D 0 = true := (by first | exact hpre | exact hpre.1 | exact hpre.2 | exact hpre.2.1 | exact hpre.2.2 | exact hpre.2.2.1 | exact hpre.2.2.2)
      have e0 := f0 d0
      simp [Region.wanted, opRun, execOp, evalV, e0, go_sem]
      exact ⟨f, f0, fun _ => rfl, f2, f3, f4, f5, f6, f7, f8, f9, f18⟩
    · simp at ho; subst ho
      simp [Region.binds] at hpre
      have d1 : D 1 = true := (by first | exact hpre | exact hpre.1 | exact hpre.2 | exact hpre.2.1 | exact hpre.2.2 | exact hpre.2.2.1 | exact hpre.2.2.2)
      have e1 := f1 d1
      simp [Region.wanted, opRun, execOp, evalV, e1, go_sem]
      exact ⟨f, f0, f1, fun _ => rfl, f3, f4, f5, f6, f7, f8, f9, f18⟩
    · simp at ho; subst ho
      simp [Region.binds] at hpre
      have d2 : D 2 = true := (by first | exact hpre | exact hpre.1 | exact hpre.2 | exact hpre.2.1 | exact hpre.2.2 | exact hpre.2.2.1 | exact hpre.2.2.2)
      have e2 := f2 d2
      simp [Region.wanted, gdV, opRun, execOp, evalV, e2, h9, go_sem]
      exact ⟨f, f0, f1, f2, fun _ => rfl, f4, f5, f6, f7, f8, f9, f18⟩
    · simp at ho; subst ho
      simp [Region.binds] at hpre
      have d2 : D 2 = true := (by first | exact hpre | exact hpre.1 | exact hpre.2 | exact hpre.2.1 | exact hpre.2.2 | exact hpre.2.2.1 | exact hpre.2.2.2)
      have d3 : D 3 = true := (by first | exact hpre | exact hpre.1 | exact hpre.2 | exact hpre.2.1 | exact hpre.2.2 | exact hpre.2.2.1 | exact hpre.2.2.2)
      have e2 := f2 d2
      have e3 := f3 d3
      simp [Region.wanted, gdV, opRun, execOp, evalV, e2, e3, z2, go_sem]
      exact ⟨f, f0, f1, f2, f3, fun _ => rfl, f5, f6, f7, f8, f9, f18⟩
    · simp at ho; subst ho
      simp [Region.binds] at hpre
      have d2 : D 2 = true := (by first | exact hpre | exact hpre.1 | exact hpre.2 | exact hpre.2.1 | exact hpre.2.2 | exact hpre.2.2.1 | exact hpre.2.2.2)
      have e2 := f2 d2
      simp [Region.wanted, gdV, opRun, execOp, evalV, e2, go_sem]
      refine (C1.out _).mono ?_
      rintro e w1 ⟨v, rfl, hv, hb⟩
      exact ⟨v, rfl, f.step hb, f0, f1, f2, f3, f4, fun _ => hv, f6, f7, f8, f9, f18⟩
    · simp at ho; subst ho
      simp [Region.binds] at hpre
      have d2 : D 2 = true := (by first | exact hpre | exact hpre.1 | exact hpre.2 | exact hpre.2.1 | exact hpre.2.2 | exact hpre.2.2.1 | exact hpre.2.2.2)
      have d4 : D 4 = true := (by first | exact hpre | exact hpre.1 | exact hpre.2 | exact hpre.2.1 | exact hpre.2.2 | exact hpre.2.2.1 | exact hpre.2.2.2)
      have d5 : D 5 = true := (by first | exact hpre | exact hpre.1 | exact hpre.2 | exact hpre.2.1 | exact hpre.2.2 | exact hpre.2.2.1 | exact hpre.2.2.2)
      have e2 := f2 d2
      have e4 := f4 d4
      simp [Region.wanted, gdV, opRun, execOp, evalV, e2, e4, go_sem]
      refine (CM1.out _ _ _ f.nat2 (f5 d5)).mono ?_
      rintro e w1 ⟨rfl, hb⟩
      exact ⟨_, rfl, f.step hb, f0, f1, f2, f3, f4, fun h => (f5 h).below hb, fun _ => rfl, f7, f8, f9, f18⟩
    · simp at ho; subst ho
      simp [Region.binds] at hpre
      have d2 : D 2 = true := (by first | exact hpre | exact hpre.1 | exact hpre.2 | exact hpre.2.1 | exact hpre.2.2 | exact hpre.2.2.1 | exact hpre.2.2.2)
      have d6 : D 6 = true := (by first | exact hpre | exact hpre.1 | exact hpre.2 | exact hpre.2.1 | exact hpre.2.2 | exact hpre.2.2.1 | exact hpre.2.2.2)
      have e2 := f2 d2
      have e6 := f6 d6
      simp [Region.wanted, gdV, opRun, execOp, evalV, e2, e6, hK2, go_sem]
      exact ⟨f, f0, f1, f2, f3, f4, f5, f6, fun _ => rfl, f8, f9, f18⟩
    · simp at ho; subst ho
      simp [Region.binds] at hpre
      have d2 : D 2 = true := (by first | exact hpre | exact hpre.1 | exact hpre.2 | exact hpre.2.1 | exact hpre.2.2 | exact hpre.2.2.1 | exact hpre.2.2.2)
      have d7 : D 7 = true := (by first | exact hpre | exact hpre.1 | exact hpre.2 | exact hpre.2.1 | exact hpre.2.2 | exact hpre.2.2.1 | exact hpre.2.2.2)
      have e2 := f2 d2
      have e7 := f7 d7
      simp [Region.wanted, opRun, execOp, evalV, e2, e7, go_sem]
      exact ⟨f, f0, f1, f2, f3, f4, f5, f6, f7, fun _ => rfl, f9, f18⟩
    · simp at ho; subst ho
      simp [Region.binds] at hpre
      have d8 : D 8 = true := (by first | exact hpre | exact hpre.1 | exact hpre.2 | exact hpre.2.1 | exact hpre.2.2 | exact hpre.2.2.1 | exact hpre.2.2.2)
      have e8 := f8 d8
      simp [Region.wanted, opRun, execOp, evalV, e8, go_sem]
      exact ⟨f, f0, f1, f2, f3, f4, f5, f6, f7, f8, fun _ => rfl, f18⟩
    · simp at ho; subst ho
      simp [Region.binds] at hpre
      have d9 : D 9 = true := (by first | exact hpre | exact hpre.1 | exact hpre.2 | exact hpre.2.1 | exact hpre.2.2 | exact hpre.2.2.1 | exact hpre.2.2.2)
      have e9 := f9 d9
      simp [Region.wanted, gdV, e9]
      exact ⟨f, f0, f1, f2, f3, f4, f5, f6, f7, f8, f9, f18⟩
    · simp at ho; subst ho
      simp [Region.binds] at hpre
      have d9 : D 9 = true := (by first | exact hpre | exact hpre.1 | exact hpre.2 | exact hpre.2.1 | exact hpre.2.2 | exact hpre.2.2.1 | exact hpre.2.2.2)
      have e9 := f9 d9
      simp [Region.wanted, gdV, e9]
      exact ⟨f, f0, f1, f2, f3, f4, f5, f6, f7, f8, f9, f18⟩
    · simp at ho; subst ho
      simp [Region.binds] at hpre
      have d9 : D 9 = true := (by first | exact hpre | exact hpre.1 | exact hpre.2 | exact hpre.2.1 | exact hpre.2.2 | exact hpre.2.2.1 | exact hpre.2.2.2)
      have e9 := f9 d9
      simp [Region.wanted, gdV, e9]
      exact ⟨f, f0, f1, f2, f3, f4, f5, f6, f7, f8, f9, f18⟩
    · simp at ho; subst ho
      simp [Region.binds] at hpre
      have d9 : D 9 = true := (by first | exact hpre | exact hpre.1 | exact hpre.2 | exact hpre.2.1 | exact hpre.2.2 | exact hpre.2.2.1 | exact hpre.2.2.2)
      have e9 := f9 d9
      simp [Region.wanted, gdV, e9]
      exact ⟨f, f0, f1, f2, f3, f4, f5, f6, f7, f8, f9, f18⟩
    · simp at ho; subst ho
      simp [Region.binds] at hpre
      have d9 : D 9 = true := (by first | exact hpre | exact hpre.1 | exact hpre.2 | exact hpre.2.1 | exact hpre.2.2 | exact hpre.2.2.1 | exact hpre.2.2.2)
      have e9 := f9 d9
      simp [Region.wanted, gdV, e9]
      exact ⟨f, f0, f1, f2, f3, f4, f5, f6, f7, f8, f9, f18⟩
    · simp at ho; subst ho
      simp [Region.binds] at hpre
      have d9 : D 9 = true := (by first | exact hpre | exact hpre.1 | exact hpre.2 | exact hpre.2.1 | exact hpre.2.2 | exact hpre.2.2.1 | exact hpre.2.2.2)
      have e9 := f9 d9
      simp [Region.wanted, gdV, e9]
      exact ⟨f, f0, f1, f2, f3, f4, f5, f6, f7, f8, f9, f18⟩
    · simp at ho; subst ho
      simp [Region.binds] at hpre
      have d9 : D 9 = true := (by first | exact hpre | exact hpre.1 | exact hpre.2 | exact hpre.2.1 | exact hpre.2.2 | exact hpre.2.2.1 | exact hpre.2.2.2)
      have e9 := f9 d9
      simp [Region.wanted, gdV, e9]
      exact ⟨f, f0, f1, f2, f3, f4, f5, f6, f7, f8, f9, f18⟩
    · simp at ho; subst ho
      simp [Region.binds] at hpre
      have d9 : D 9 = true := (by first | exact hpre | exact hpre.1 | exact hpre.2 | exact hpre.2.1 | exact hpre.2.2 | exact hpre.2.2.1 | exact hpre.2.2.2)
      have e9 := f9 d9
      simp [Region.wanted, gdV, e9]
      exact ⟨f, f0, f1, f2, f3, f4, f5, f6, f7, f8, f9, f18⟩
    · simp at ho; subst ho
      simp [Region.binds] at hpre
      have d9 : D 9 = true := (by first | exact hpre | exact hpre.1 | exact hpre.2 | exact hpre.2.1 | exact hpre.2.2 | exact hpre.2.2.1 | exact hpre.2.2.2)
      have e9 := f9 d9
      simp [Region.wanted, opRun, execOp, evalV, e9, go_sem]
      exact ⟨f, f0, f1, f2, f3, f4, f5, f6, f7, f8, f9, fun _ => rfl⟩
    · simp at ho
  · intro D V w' hF hall
    obtain ⟨f, f0, f1, f2, f3, f4, f5, f6, f7, f8, f9, f18⟩ := hF
    clear f0 f1 f2 f3 f4 f5 f6 f7 f8 f9
    have hv := f18 (hall 18 (by decide))
    simp only [putAll, List.foldl_cons, List.foldl_nil, hv]
    clear hv f18 hall hV0 c1 c2 c3 hV
    obtain ⟨k1, k2, k3, k4, k5, k6, k7, k8, k9⟩ := f.cells
    have hU : Hid (PaT w bx false (.slice a1 L1 r1) (.slice a2 L2 r2) m n w') := Lib.hid f
    clear f
    simp only [Act.put, List.setIfInBounds_toArray, List.set_cons_succ, List.set_cons_zero]
    go_wp2
    refine bodyPost_ret (v := .tuple #[.agg #[.int .i64 0, .int .i64 0], .int .i64 3]) (by simp [results, Tryd.results6, go_sem, k6, k7]) rfl ⟨rfl, (((hU.out.fin).setCell (by simp) _).setCell (by simp) _)⟩

set_option maxHeartbeats 2000000 in
theorem parse_hf (s sR sN sD : ByteArray) (w : World) (hs : s.size ≤ 40) (hE : Env w) (CP : Hid (CutC s sR false)) (CC : Hid (SplC sR sN sD true)) (m : Nat) (D1 : Hid (DigT sN m)) (hl : (digs W32 m).length ≤ 100) (n : Nat) (D2 : Hid (DigT sD n)) (hl2 : (digs W32 n).length ≤ 100) (hn : 1 < n) (hg : Nat.gcd m n ≠ 1) :
    Calls Tryd.prog 6 #[.string s] w fun e w' => e = RatE (0, 0, 3) ∧ Below w.heap.size w w' := by
  obtain ⟨K2, hK⟩ : ∃ K, K = cmpN (Nat.gcd m n) 1 := ⟨_, rfl⟩
  have hK2 : (K2 == 0) = false := by
    refine beq_eq_false_iff_ne.2 ?_
    rw [hK]
    unfold cmpN
    split
    · omega
    · split
      · omega
      · omega
  have hK3 : ¬ K2 = 0 := beq_eq_false_iff_ne.1 hK2
  have CM1 : Hid (∀ va vb wx, NatV wx .u32 W32 va n → NatV wx .u32 W32 vb 1 → Calls Tryd.prog 20 #[va, vb] wx fun e w' => e = .returned (.int .i64 1) ∧ Below wx.heap.size wx w') := Lib.hid (fun va vb wx h1 h2 => by
    have h := cmp_any va vb n 1 wx h1 h2 (by omega) (Nat.le_trans digs_one_len (by omega))
    rw [cmpN_gt hn] at h; exact h)
  have HG : (digs W32 (Nat.gcd m n)).length ≤ 10000 := gcd_len m n (by omega) (by omega)
  have DV : Hid (∀ va vb wx, NatV wx .u32 W32 va m → NatV wx .u32 W32 vb n → Calls Tryd.prog 21 #[va, vb] wx fun e w' => ∃ v, e = .returned v ∧ NatV w' .u32 W32 v (Nat.gcd m n) ∧ Below wx.heap.size wx w') := Lib.hid (fun va vb wx h1 h2 => divisor_any va vb m n wx h1 h2 (by omega) (by omega))
  have CM2 : Hid (∀ va vb wx, NatV wx .u32 W32 va (Nat.gcd m n) → NatV wx .u32 W32 vb 1 → Calls Tryd.prog 20 #[va, vb] wx fun e w' => e = .returned (.int .i64 K2) ∧ Below wx.heap.size wx w') := Lib.hid (fun va vb wx h1 h2 => by
    have h := cmp_any va vb (Nat.gcd m n) 1 wx h1 h2 (by omega) (Nat.le_trans digs_one_len (by omega))
    rw [← hK] at h; exact h)
  obtain ⟨G, hG⟩ : ∃ G, G = Nat.gcd m n := ⟨_, rfl⟩
  rw [← hG] at DV CM2
  clear hG HG
  clear hK hn hg
  have st := SuI.start w
  have hs2 : (s.size : Int) ≤ 40 := by omega
  have C1 : Hid (∀ wx, Calls Tryd.prog 18 #[.int .u64 1] wx fun e w' => ∃ v, e = .returned v ∧ NatV w' .u32 W32 v 1 ∧ Below wx.heap.size wx w') := Lib.hid (fun wx => word_any 1 wx (by omega))
  go_enter Tryd.func6, Tryd.ntmps6
  go_wp2_with fail
  refine (CP.out _).mono ?_
  rintro e w1 ⟨rfl, rfl⟩
  go_wp2_with fail
  refine (CC.out _ (hE.below st.1)).mono ?_
  rintro e w2 ⟨rfl, hb2⟩
  replace st := st.step hb2
  clear hb2
  go_wp2_with fail
  refine (C1.out _).mono ?_
  rintro e w3 ⟨vd, rfl, nd, hb3⟩
  replace st := st.step hb3
  clear hb3
  obtain ⟨qd, rd, sd⟩ := nd.shape
  obtain ⟨Ld, hLd⟩ : ∃ x, x = (digs W32 1).length := ⟨_, rfl⟩
  rw [← hLd] at sd
  clear hLd
  subst sd
  have hT := PaT.start st false nd
  clear st nd
  go_wp2_with fail
  obtain ⟨bx, hbx⟩ : ∃ b, b = w3.heap.size := ⟨_, rfl⟩
  obtain ⟨w4, hw4⟩ : ∃ x, x = w3.alloc (Obj.cells #[.bool false, .slice none 0 0, .slice qd Ld rd] 46) := ⟨_, rfl⟩
  (try rw [← hbx, ← hw4] at hT)
  (try rw [← hbx])
  (try rw [← hw4])
  clear hbx hw4
  refine (D1.out _).mono ?_
  rintro e w5 ⟨⟨a1, r1, rfl, n1⟩, hb5⟩
  replace hT := hT.step hb5
  clear hb5
  obtain ⟨c1, c2, c3, c4, c5, c6, c7, c8, c9⟩ := hT.cells
  have hne : ¬ w.heap.size = bx := by have := hT.2.1; omega
  have hne2 : ¬ bx = w.heap.size := by have := hT.2.1; omega
  have hU := hT.set1 n1
  have hm1 : ∀ x, x = (digs W32 m).length → PaT w bx false (.slice a1 x r1) (.slice qd Ld rd) m 1 (w5.setCell ⟨bx, 1, none⟩ (.slice a1 x r1)) := by rintro x rfl; exact hU
  obtain ⟨L1, hL1⟩ : ∃ x, x = (digs W32 m).length := ⟨_, rfl⟩
  replace hU := hm1 L1 hL1
  clear hm1
  rw [← hL1] at hl n1
  (try rw [← hL1])
  (try rw [← hL1] at hz)
  clear hL1 hT
  go_wp2_with fail
  obtain ⟨w6, hw6⟩ : ∃ x, x = w5.setCell ⟨bx, 1, none⟩ (.slice a1 L1 r1) := ⟨_, rfl⟩
  rw [← hw6] at hU
  rw [← hw6]
  clear hw6 c1 c2 c3 c4 c5 c6 c7 c8 c9 n1
  refine (D2.out _).mono ?_
  rintro e w7 ⟨⟨a2, r2, rfl, n2⟩, hb7⟩
  replace hU := hU.step hb7
  clear hb7
  obtain ⟨c1, c2, c3, c4, c5, c6, c7, c8, c9⟩ := hU.cells
  have hV := hU.set2 n2
  have hm2 : ∀ x, x = (digs W32 n).length → PaT w bx false (.slice a1 L1 r1) (.slice a2 x r2) m n (w7.setCell ⟨bx, 2, none⟩ (.slice a2 x r2)) := by rintro x rfl; exact hV
  obtain ⟨L2, hL2⟩ : ∃ x, x = (digs W32 n).length := ⟨_, rfl⟩
  replace hV := hm2 L2 hL2
  clear hm2 n2 hl2
  (try rw [← hL2])
  clear hL2
  go_upto_region 12 with fail
  obtain ⟨w8, hw8⟩ : ∃ x, x = w7.setCell ⟨bx, 2, none⟩ (.slice a2 L2 r2) := ⟨_, rfl⟩
  rw [← hw8] at hV
  rw [← hw8]
  clear hw8 c1 c2 c3 c4 c5 c6 c7 c8 c9 hU
  obtain ⟨_, c1, c2, c3⟩ := hV.all
  have hV0 := hV.drew
  go_region_held3 (fun w' => PaT w bx false (.slice a1 L1 r1) (.slice a2 L2 r2) m n w' ∧ w'.cell? ⟨bx, 0, none⟩ = some (.bool false) ∧ w'.cell? ⟨bx, 1, none⟩ = some (.slice a1 L1 r1) ∧ w'.cell? ⟨bx, 2, none⟩ = some (.slice a2 L2 r2)) (first | exact PaT.all (by assumption))
    (first
      | (go_at_call 18; (with_reducible refine (C1.out _).mono ?_); rintro e w9 ⟨v9, rfl, n9, hb9⟩; have hV1 := hV0.step hb9; have d1 := hV1.nat2)
      | (go_at_call 20; (with_reducible refine (CM1.out _ _ _ d1 n9).mono ?_); rintro e w10 ⟨rfl, hb10⟩; have hV2 := hV1.step hb10; have d2 := hV2.nat1; have d3 := hV2.nat2)
      | (go_at_call 21; (with_reducible refine (DV.out _ _ _ d2 d3).mono ?_); rintro e w11 ⟨v11, rfl, n11, hb11⟩; have hV3 := hV2.step hb11; obtain ⟨a11, c11, e11⟩ := n11.shape; subst e11)
      | (go_at_call 18; (with_reducible refine (C1.out _).mono ?_); rintro e w12 ⟨v12, rfl, n12, hb12⟩; have hV4 := hV3.step hb12; have n13 := n11.below hb12)
      | (go_at_call 20; (with_reducible refine (CM2.out _ _ _ n13 n12).mono ?_); rintro e w13 ⟨rfl, hb13⟩; have hV5 := hV4.step hb13))
  all_goals have hU := hV5
  all_goals obtain ⟨k1, k2, k3, k4, k5, k6, k7, k8, k9⟩ := hU.cells
  all_goals go_wp2
  all_goals refine bodyPost_ret (v := .tuple #[.agg #[.int .i64 0, .int .i64 0], .int .i64 3]) (by simp [results, Tryd.results6, go_sem, k6, k7]) rfl ⟨rfl, (((hU.fin).setCell (by simp) _).setCell (by simp) _)⟩

set_option maxHeartbeats 2000000 in
theorem parse_mf (s sR sN sD : ByteArray) (w : World) (hs : s.size ≤ 40) (hE : Env w) (CP : Hid (CutC s sR false)) (CC : Hid (SplC sR sN sD true)) (m : Nat) (D1 : Hid (DigT sN m)) (hl : (digs W32 m).length ≤ 100) (n : Nat) (D2 : Hid (DigT sD n)) (hl2 : (digs W32 n).length ≤ 100) (hn : 1 < n) (hg : Nat.gcd m n = 1) :
    Calls Tryd.prog 6 #[.string s] w fun e w' => e = RatE (ratioS false m n) ∧ Below w.heap.size w w' := by
  have RT : Hid (∀ v wx, FracV wx v false m n → Calls Tryd.prog 22 #[v] wx fun e w' => e = RatE (ratioS false m n) ∧ Below wx.heap.size wx w') := Lib.hid (fun v wx h => ratio_any v false m n wx h (by omega) (by omega) (by omega))
  have CM1 : Hid (∀ va vb wx, NatV wx .u32 W32 va n → NatV wx .u32 W32 vb 1 → Calls Tryd.prog 20 #[va, vb] wx fun e w' => e = .returned (.int .i64 1) ∧ Below wx.heap.size wx w') := Lib.hid (fun va vb wx h1 h2 => by
    have h := cmp_any va vb n 1 wx h1 h2 (by omega) (Nat.le_trans digs_one_len (by omega))
    rw [cmpN_gt hn] at h; exact h)
  have HG : (digs W32 (Nat.gcd m n)).length ≤ 10000 := gcd_len m n (by omega) (by omega)
  have DV : Hid (∀ va vb wx, NatV wx .u32 W32 va m → NatV wx .u32 W32 vb n → Calls Tryd.prog 21 #[va, vb] wx fun e w' => ∃ v, e = .returned v ∧ NatV w' .u32 W32 v (Nat.gcd m n) ∧ Below wx.heap.size wx w') := Lib.hid (fun va vb wx h1 h2 => divisor_any va vb m n wx h1 h2 (by omega) (by omega))
  have CM2 : Hid (∀ va vb wx, NatV wx .u32 W32 va (Nat.gcd m n) → NatV wx .u32 W32 vb 1 → Calls Tryd.prog 20 #[va, vb] wx fun e w' => e = .returned (.int .i64 0) ∧ Below wx.heap.size wx w') := Lib.hid (fun va vb wx h1 h2 => by
    have h := cmp_any va vb (Nat.gcd m n) 1 wx h1 h2 (by omega) (Nat.le_trans digs_one_len (by omega))
    rw [hg, cmpN_eq] at h; exact h)
  obtain ⟨G, hG⟩ : ∃ G, G = Nat.gcd m n := ⟨_, rfl⟩
  rw [← hG] at DV CM2
  clear hG HG
  clear hn hg
  have st := SuI.start w
  have hs2 : (s.size : Int) ≤ 40 := by omega
  have C1 : Hid (∀ wx, Calls Tryd.prog 18 #[.int .u64 1] wx fun e w' => ∃ v, e = .returned v ∧ NatV w' .u32 W32 v 1 ∧ Below wx.heap.size wx w') := Lib.hid (fun wx => word_any 1 wx (by omega))
  go_enter Tryd.func6, Tryd.ntmps6
  go_wp2_with fail
  refine (CP.out _).mono ?_
  rintro e w1 ⟨rfl, rfl⟩
  go_wp2_with fail
  refine (CC.out _ (hE.below st.1)).mono ?_
  rintro e w2 ⟨rfl, hb2⟩
  replace st := st.step hb2
  clear hb2
  go_wp2_with fail
  refine (C1.out _).mono ?_
  rintro e w3 ⟨vd, rfl, nd, hb3⟩
  replace st := st.step hb3
  clear hb3
  obtain ⟨qd, rd, sd⟩ := nd.shape
  obtain ⟨Ld, hLd⟩ : ∃ x, x = (digs W32 1).length := ⟨_, rfl⟩
  rw [← hLd] at sd
  clear hLd
  subst sd
  have hT := PaT.start st false nd
  clear st nd
  go_wp2_with fail
  obtain ⟨bx, hbx⟩ : ∃ b, b = w3.heap.size := ⟨_, rfl⟩
  obtain ⟨w4, hw4⟩ : ∃ x, x = w3.alloc (Obj.cells #[.bool false, .slice none 0 0, .slice qd Ld rd] 46) := ⟨_, rfl⟩
  (try rw [← hbx, ← hw4] at hT)
  (try rw [← hbx])
  (try rw [← hw4])
  clear hbx hw4
  refine (D1.out _).mono ?_
  rintro e w5 ⟨⟨a1, r1, rfl, n1⟩, hb5⟩
  replace hT := hT.step hb5
  clear hb5
  obtain ⟨c1, c2, c3, c4, c5, c6, c7, c8, c9⟩ := hT.cells
  have hne : ¬ w.heap.size = bx := by have := hT.2.1; omega
  have hne2 : ¬ bx = w.heap.size := by have := hT.2.1; omega
  have hU := hT.set1 n1
  have hm1 : ∀ x, x = (digs W32 m).length → PaT w bx false (.slice a1 x r1) (.slice qd Ld rd) m 1 (w5.setCell ⟨bx, 1, none⟩ (.slice a1 x r1)) := by rintro x rfl; exact hU
  obtain ⟨L1, hL1⟩ : ∃ x, x = (digs W32 m).length := ⟨_, rfl⟩
  replace hU := hm1 L1 hL1
  clear hm1
  rw [← hL1] at hl n1
  (try rw [← hL1])
  (try rw [← hL1] at hz)
  clear hL1 hT
  go_wp2_with fail
  obtain ⟨w6, hw6⟩ : ∃ x, x = w5.setCell ⟨bx, 1, none⟩ (.slice a1 L1 r1) := ⟨_, rfl⟩
  rw [← hw6] at hU
  rw [← hw6]
  clear hw6 c1 c2 c3 c4 c5 c6 c7 c8 c9 n1
  refine (D2.out _).mono ?_
  rintro e w7 ⟨⟨a2, r2, rfl, n2⟩, hb7⟩
  replace hU := hU.step hb7
  clear hb7
  obtain ⟨c1, c2, c3, c4, c5, c6, c7, c8, c9⟩ := hU.cells
  have hV := hU.set2 n2
  have hm2 : ∀ x, x = (digs W32 n).length → PaT w bx false (.slice a1 L1 r1) (.slice a2 x r2) m n (w7.setCell ⟨bx, 2, none⟩ (.slice a2 x r2)) := by rintro x rfl; exact hV
  obtain ⟨L2, hL2⟩ : ∃ x, x = (digs W32 n).length := ⟨_, rfl⟩
  replace hV := hm2 L2 hL2
  clear hm2 n2 hl2
  (try rw [← hL2])
  clear hL2
  go_upto_region 12 with fail
  obtain ⟨w8, hw8⟩ : ∃ x, x = w7.setCell ⟨bx, 2, none⟩ (.slice a2 L2 r2) := ⟨_, rfl⟩
  rw [← hw8] at hV
  rw [← hw8]
  clear hw8 c1 c2 c3 c4 c5 c6 c7 c8 c9 hU
  obtain ⟨_, c1, c2, c3⟩ := hV.all
  have hV0 := hV.drew
  go_region_held3 (fun w' => PaT w bx false (.slice a1 L1 r1) (.slice a2 L2 r2) m n w' ∧ w'.cell? ⟨bx, 0, none⟩ = some (.bool false) ∧ w'.cell? ⟨bx, 1, none⟩ = some (.slice a1 L1 r1) ∧ w'.cell? ⟨bx, 2, none⟩ = some (.slice a2 L2 r2)) (first | exact PaT.all (by assumption))
    (first
      | (go_at_call 18; (with_reducible refine (C1.out _).mono ?_); rintro e w9 ⟨v9, rfl, n9, hb9⟩; have hV1 := hV0.step hb9; have d1 := hV1.nat2)
      | (go_at_call 20; (with_reducible refine (CM1.out _ _ _ d1 n9).mono ?_); rintro e w10 ⟨rfl, hb10⟩; have hV2 := hV1.step hb10; have d2 := hV2.nat1; have d3 := hV2.nat2)
      | (go_at_call 21; (with_reducible refine (DV.out _ _ _ d2 d3).mono ?_); rintro e w11 ⟨v11, rfl, n11, hb11⟩; have hV3 := hV2.step hb11; obtain ⟨a11, c11, e11⟩ := n11.shape; subst e11)
      | (go_at_call 18; (with_reducible refine (C1.out _).mono ?_); rintro e w12 ⟨v12, rfl, n12, hb12⟩; have hV4 := hV3.step hb12; have n13 := n11.below hb12)
      | (go_at_call 20; (with_reducible refine (CM2.out _ _ _ n13 n12).mono ?_); rintro e w13 ⟨rfl, hb13⟩; have hV5 := hV4.step hb13))
  all_goals obtain ⟨_, z1, z2, z3⟩ := hV5.all
  all_goals go_wp2_with fail
  all_goals refine (RT.out _ _ ⟨_, _, rfl, hV5.2.2.2.1, hV5.2.2.2.2⟩).mono ?_
  all_goals rintro e w9 ⟨he, hb9⟩
  all_goals obtain ⟨x1, x2, x3, hx, he'⟩ := RatE_cases he
  all_goals subst he'
  all_goals have hI9 := hV5.1.step hb9
  all_goals obtain ⟨k1, k2, k3, k4⟩ := hI9.cells
  all_goals clear hb9 RT
  all_goals go_wp2
  all_goals refine bodyPost_ret (v := .tuple #[.agg #[.int .i64 x1, .int .i64 x2], .int .i64 x3]) (by simp [results, Tryd.results6, go_sem, k1, k2]) rfl ⟨?_, (hI9.1.setCell (by simp) _).setCell (by simp) _⟩
  all_goals rw [← hx]
  all_goals rfl

end Go.Proofs.YtpjjbdpkhmeldaaDoor
