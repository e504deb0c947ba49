/- contract of the reference's Parse: the walks -/
import Derived.Test.YtpjjbdpkhmeldaaDoorT7
namespace Go.Proofs.YtpjjbdpkhmeldaaDoor
open Go.RowKit

def ReadC (sN : ByteArray) (m : Nat) : Prop := ∀ wx, Calls Tryd.prog 23 #[.string sN] wx fun e w' => (∃ a c, e = .returned (.slice a (digs R15 m).length c) ∧ NatV w' .i64 R15 (.slice a (digs R15 m).length c) m) ∧ Below wx.heap.size wx w'
def LowC (g : Bool) (m n : Nat) (x : Bool) (p q : Nat) : Prop := ∀ v wx, FracR wx v g m n → Calls Tryd.prog 25 #[v] wx fun e w' => ∃ v', e = .returned v' ∧ FracR w' v' x p q ∧ Below wx.heap.size wx w'
def TexC (x : Bool) (p q : Nat) (t : List UInt8) : Prop := ∀ v wx, FracR wx v x p q → Calls Tryd.prog 24 #[v] wx fun e w' => ∃ s : ByteArray, e = .returned (.string s) ∧ s.data.toList = t ∧ Below wx.heap.size wx w'
def NarC (g : Bool) (m n : Nat) : Prop := ∀ v wx, FracR wx v g m n → Calls Tryd.prog 26 #[v] wx fun e w' => e = RatE (ratioS g m n) ∧ Below wx.heap.size wx w'

set_option maxRecDepth 20000 in
set_option maxHeartbeats 2000000 in
theorem rparse_tsz (s : ByteArray) (w : World) (hs : s.size ≤ 40) (h0 : 0 < s.size) (h45 : (s[0]'h0).toNat = 45) (sl : Nat) (HSL : Hid (sl = ffrom s.data.toList 0)) (hfr : 1 ≤ sl) (_hsz : sl ≤ s.size) (hslt : sl < s.size) (m n : Nat) (RN : Hid (ReadC (s.extract 1 sl) m)) (RD : Hid (ReadC (s.extract (sl + 1) s.size) n)) (hn0 : n = 0) :
    Calls Tryd.prog 7 #[.string s] w fun e w' => e = RatE (0, 0, 3) ∧ Below w.heap.size w w' := by
  have hs2 : (s.size : Int) ≤ 40 := by omega
  have hS := RpT.start w
  have b4 : (sl : Int) < (s.size : Int) := by omega
  clear hslt
  obtain ⟨z, hz⟩ : ∃ z, (s[0]'h0).toNat = z := ⟨_, rfl⟩
  have hz45 : z = 45 := by rw [← hz]; exact h45
  clear h45
  go_enter Tryd.func7, Tryd.ntmps7
  go_upto_region 5 with fail
  obtain ⟨w4, hw4⟩ : ∃ x, x = ((w.alloc (Obj.cells #[.int .i64 0, .int .i64 0] 23)).alloc (Obj.cells #[.int .i64 1] 3)).alloc (Obj.cells #[.bool false, .slice none 0 0, .slice (some ⟨w.heap.size + 1, 0, none⟩) 1 1] 54) := ⟨_, rfl⟩
  rw [← hw4] at hS
  (try rw [← hw4])
  clear hw4
  obtain ⟨bx, hbx⟩ : ∃ b, b = w.heap.size + 1 + 1 := ⟨_, rfl⟩
  rw [← hbx] at hS
  (try rw [← hbx])
  clear hbx
  obtain ⟨qd, hqd⟩ : ∃ b, b = some (⟨w.heap.size + 1, 0, none⟩ : Addr) := ⟨_, rfl⟩
  rw [← hqd] at hS
  (try rw [← hqd])
  clear hqd
  go_cut [23] (fun s23 wx => s23 = .bool true ∧ wx = w4)
  case first =>
    subst hz45
    go_wp2_with fail
    go_meet
    exact ⟨rfl, rfl⟩
  case rest =>
    obtain ⟨rfl, rfl⟩ := hcut
    clear hz hz45 h0
    obtain ⟨c0, c1, c2, c3, c4, c5, c6, c7, c8, c9⟩ := hS.cells
    go_upto_region 7 with fail
    clear c0 c1 c2 c3 c4 c5 c6 c7 c8 c9
    replace hS := hS.set0 true
    obtain ⟨w5, hw5⟩ : ∃ x, x = wc.setCell ⟨bx, 0, none⟩ (.bool true) := ⟨_, rfl⟩
    rw [← hw5] at hS
    rw [← hw5]
    clear hw5
    go_wp2_with fail
    have HL := Lib.hid (fun (i : Nat) (h : i < s.size) => show s.data.toList[i]? = some s[i] from Lib.data_getElem? s i h)
    go_loop [6, 7] (fun s6 s7 => ∃ (j : Nat) (y f : Int), j ≤ s.size ∧ s7 = .int .i64 y ∧ s6 = .int .i64 f ∧ y = (j : Int) - 1 ∧ f = (ffrom s.data.toList j : Nat)) (fun _ s7 => match s7 with | .int _ x => (x + 1).toNat | _ => 0)
    case atStart => exact ⟨s.size, _, _, Nat.le_refl _, rfl, rfl, rfl, by rw [← sz_len, ffrom_end]⟩
    case round =>
      obtain ⟨j, y, f, hj, rfl, rfl, hy, hf⟩ := hrel
      rcases Nat.eq_zero_or_pos j with hj0 | hj0
      · subst hj0
        have hy1 : y = -1 := by omega
        have hf1 : f = (sl : Int) := by rw [HSL.out]; exact hf
        subst hy1
        subst hf1
        clear hy hf hj
        obtain ⟨c0, c1, c2, c3, c4, c5, c6, c7, c8, c9⟩ := hS.cells
        have b1 : ¬ (sl : Int) < 1 := by omega
        have b2 : (1 : Int) ≤ (sl : Int) := by omega
        have b3 : (sl : Int) ≤ (s.size : Int) := by omega
        go_wp2_with fail
        refine (RN.out _).mono ?_
        rintro e w6 ⟨⟨a1, r1, rfl, n1⟩, hb6⟩
        replace hS := hS.step hb6
        clear hb6 c0 c1 c2 c3 c4 c5 c6 c7 c8 c9
        obtain ⟨c0, c1, c2, c3, c4, c5, c6, c7, c8, c9⟩ := hS.cells
        have hU := hS.set1 n1
        have hm1 : ∀ x, x = (digs R15 m).length → RpT w bx true (.slice a1 x r1) (.slice qd 1 1) m 1 (w6.setCell ⟨bx, 1, none⟩ (.slice a1 x r1)) := by rintro x rfl; exact hU
        obtain ⟨L1, hL1⟩ : ∃ x, x = (digs R15 m).length := ⟨_, rfl⟩
        replace hU := hm1 L1 hL1
        clear hm1 n1 hS
        (try rw [← hL1])
        clear hL1
        have b5 : (0 : Int) ≤ (sl : Int) + 1 := by omega
        have b6 : (sl : Int) + 1 ≤ (s.size : Int) := by omega
        go_wp2_with fail
        obtain ⟨w7, hw7⟩ : ∃ x, x = w6.setCell ⟨bx, 1, none⟩ (.slice a1 L1 r1) := ⟨_, rfl⟩
        rw [← hw7] at hU
        rw [← hw7]
        clear hw7 c0 c1 c2 c3 c4 c5 c6 c7 c8 c9
        refine (RD.out _).mono ?_
        rintro e w8 ⟨⟨a2, r2, rfl, n2⟩, hb8⟩
        replace hU := hU.step hb8
        clear hb8
        obtain ⟨c0, c1, c2, c3, c4, c5, c6, c7, c8, c9⟩ := hU.cells
        have hV := hU.set2 n2
        subst hn0
        rw [digs_zero] at hV
        (try rw [digs_zero])
        have hV' : RpT w bx true (.slice a1 L1 r1) (.slice a2 0 r2) m 0 (w8.setCell ⟨bx, 2, none⟩ (.slice a2 0 r2)) := hV
        clear hU n2 hV
        have hV := hV'
        clear hV'
        go_wp2
        obtain ⟨k0, k1, k2, k3, k4, k5, k6, k7, k8, k9⟩ := hV.cells
        refine bodyPost_ret (v := .tuple #[.agg #[.int .i64 0, .int .i64 0], .int .i64 3]) (by simp [results, Tryd.results7, go_sem, k6, k7]) rfl ⟨rfl, (((hV.fin).setCell (by simp) _).setCell (by simp) _)⟩
      · obtain ⟨i, rfl⟩ : ∃ i, j = i + 1 := ⟨j - 1, by omega⟩
        have hi : i < s.size := by omega
        have hy1 : y = (i : Int) := by omega
        subst hy1
        have hlen : i < s.data.toList.length := by rw [sz_len]; exact hi
        have hli : s.data.toList[i] = s[i]'hi := by
          have := HL.out i hi
          rw [List.getElem?_eq_getElem hlen] at this
          exact Option.some.inj this
        by_cases h47 : (s[i]'hi).toNat = 47
        · have hh : (ffrom s.data.toList i : Nat) = i := ffrom_hit _ i hlen (by rw [hli]; exact UInt8.toNat_inj.1 h47)
          have HH := Lib.hid hh
          clear hh hli hlen hf hy
          go_wp2
          exact ⟨⟨i, _, _, by omega, rfl, rfl, by go_num, by rw [HH.out]⟩, (by first | (simp; done) | (simp; omega))⟩
        · have hh : ffrom s.data.toList i = ffrom s.data.toList (i + 1) := ffrom_miss _ i hlen (by rw [hli]; intro e; exact h47 (by rw [e]; rfl))
          have HH := Lib.hid hh
          obtain ⟨z, hz⟩ : ∃ z, (s[i]'hi).toNat = z := ⟨_, rfl⟩
          rw [hz] at h47
          have e1 : ((z : Int) == 47) = false := beq_eq_false_iff_ne.2 (by omega)
          have e2 : ¬ (z : Int) = 47 := by omega
          have HF := Lib.hid hf
          clear hh hli hlen hf hy
          go_wp2
          exact ⟨⟨i, _, _, by omega, rfl, rfl, by go_num, by rw [HH.out]; exact HF.out⟩, (by first | (simp; done) | (simp; omega))⟩

set_option maxRecDepth 20000 in
set_option maxHeartbeats 2000000 in
theorem rparse_tsb (s : ByteArray) (w : World) (hs : s.size ≤ 40) (h0 : 0 < s.size) (h45 : (s[0]'h0).toNat = 45) (sl : Nat) (HSL : Hid (sl = ffrom s.data.toList 0)) (hfr : 1 ≤ sl) (_hsz : sl ≤ s.size) (hslt : sl < s.size) (m n : Nat) (RN : Hid (ReadC (s.extract 1 sl) m)) (RD : Hid (ReadC (s.extract (sl + 1) s.size) n)) (hn0 : 0 < n) (x : Bool) (p q : Nat) (t : List UInt8) (LW : Hid (LowC true m n x p q)) (TX : Hid (TexC x p q t)) (ht : Hid (t ≠ s.data.toList)) :
    Calls Tryd.prog 7 #[.string s] w fun e w' => e = RatE (0, 0, 3) ∧ Below w.heap.size w w' := by
  have hs2 : (s.size : Int) ≤ 40 := by omega
  have hS := RpT.start w
  have b4 : (sl : Int) < (s.size : Int) := by omega
  clear hslt
  obtain ⟨z, hz⟩ : ∃ z, (s[0]'h0).toNat = z := ⟨_, rfl⟩
  have hz45 : z = 45 := by rw [← hz]; exact h45
  clear h45
  go_enter Tryd.func7, Tryd.ntmps7
  go_upto_region 5 with fail
  obtain ⟨w4, hw4⟩ : ∃ x, x = ((w.alloc (Obj.cells #[.int .i64 0, .int .i64 0] 23)).alloc (Obj.cells #[.int .i64 1] 3)).alloc (Obj.cells #[.bool false, .slice none 0 0, .slice (some ⟨w.heap.size + 1, 0, none⟩) 1 1] 54) := ⟨_, rfl⟩
  rw [← hw4] at hS
  (try rw [← hw4])
  clear hw4
  obtain ⟨bx, hbx⟩ : ∃ b, b = w.heap.size + 1 + 1 := ⟨_, rfl⟩
  rw [← hbx] at hS
  (try rw [← hbx])
  clear hbx
  obtain ⟨qd, hqd⟩ : ∃ b, b = some (⟨w.heap.size + 1, 0, none⟩ : Addr) := ⟨_, rfl⟩
  rw [← hqd] at hS
  (try rw [← hqd])
  clear hqd
  go_cut [23] (fun s23 wx => s23 = .bool true ∧ wx = w4)
  case first =>
    subst hz45
    go_wp2_with fail
    go_meet
    exact ⟨rfl, rfl⟩
  case rest =>
    obtain ⟨rfl, rfl⟩ := hcut
    clear hz hz45 h0
    obtain ⟨c0, c1, c2, c3, c4, c5, c6, c7, c8, c9⟩ := hS.cells
    go_upto_region 7 with fail
    clear c0 c1 c2 c3 c4 c5 c6 c7 c8 c9
    replace hS := hS.set0 true
    obtain ⟨w5, hw5⟩ : ∃ x, x = wc.setCell ⟨bx, 0, none⟩ (.bool true) := ⟨_, rfl⟩
    rw [← hw5] at hS
    rw [← hw5]
    clear hw5
    go_wp2_with fail
    have HL := Lib.hid (fun (i : Nat) (h : i < s.size) => show s.data.toList[i]? = some s[i] from Lib.data_getElem? s i h)
    go_loop [6, 7] (fun s6 s7 => ∃ (j : Nat) (y f : Int), j ≤ s.size ∧ s7 = .int .i64 y ∧ s6 = .int .i64 f ∧ y = (j : Int) - 1 ∧ f = (ffrom s.data.toList j : Nat)) (fun _ s7 => match s7 with | .int _ x => (x + 1).toNat | _ => 0)
    case atStart => exact ⟨s.size, _, _, Nat.le_refl _, rfl, rfl, rfl, by rw [← sz_len, ffrom_end]⟩
    case round =>
      obtain ⟨j, y, f, hj, rfl, rfl, hy, hf⟩ := hrel
      rcases Nat.eq_zero_or_pos j with hj0 | hj0
      · subst hj0
        have hy1 : y = -1 := by omega
        have hf1 : f = (sl : Int) := by rw [HSL.out]; exact hf
        subst hy1
        subst hf1
        clear hy hf hj
        obtain ⟨c0, c1, c2, c3, c4, c5, c6, c7, c8, c9⟩ := hS.cells
        have b1 : ¬ (sl : Int) < 1 := by omega
        have b2 : (1 : Int) ≤ (sl : Int) := by omega
        have b3 : (sl : Int) ≤ (s.size : Int) := by omega
        go_wp2_with fail
        refine (RN.out _).mono ?_
        rintro e w6 ⟨⟨a1, r1, rfl, n1⟩, hb6⟩
        replace hS := hS.step hb6
        clear hb6 c0 c1 c2 c3 c4 c5 c6 c7 c8 c9
        obtain ⟨c0, c1, c2, c3, c4, c5, c6, c7, c8, c9⟩ := hS.cells
        have hU := hS.set1 n1
        have hm1 : ∀ x, x = (digs R15 m).length → RpT w bx true (.slice a1 x r1) (.slice qd 1 1) m 1 (w6.setCell ⟨bx, 1, none⟩ (.slice a1 x r1)) := by rintro x rfl; exact hU
        obtain ⟨L1, hL1⟩ : ∃ x, x = (digs R15 m).length := ⟨_, rfl⟩
        replace hU := hm1 L1 hL1
        clear hm1 n1 hS
        (try rw [← hL1])
        clear hL1
        have b5 : (0 : Int) ≤ (sl : Int) + 1 := by omega
        have b6 : (sl : Int) + 1 ≤ (s.size : Int) := by omega
        go_wp2_with fail
        obtain ⟨w7, hw7⟩ : ∃ x, x = w6.setCell ⟨bx, 1, none⟩ (.slice a1 L1 r1) := ⟨_, rfl⟩
        rw [← hw7] at hU
        rw [← hw7]
        clear hw7 c0 c1 c2 c3 c4 c5 c6 c7 c8 c9
        refine (RD.out _).mono ?_
        rintro e w8 ⟨⟨a2, r2, rfl, n2⟩, hb8⟩
        replace hU := hU.step hb8
        clear hb8
        obtain ⟨c0, c1, c2, c3, c4, c5, c6, c7, c8, c9⟩ := hU.cells
        have hV := hU.set2 n2
        have hm2 : ∀ x, x = (digs R15 n).length → RpT w bx true (.slice a1 L1 r1) (.slice a2 x r2) m n (w8.setCell ⟨bx, 2, none⟩ (.slice a2 x r2)) := by rintro x rfl; exact hV
        have hpos : 0 < (digs R15 n).length := by rw [digs_pos R15 n R15_ge hn0]; simp
        obtain ⟨L2, hL2⟩ : ∃ x, x = (digs R15 n).length := ⟨_, rfl⟩
        rw [← hL2] at hpos
        replace hV := hm2 L2 hL2
        clear hm2 n2 hU
        (try rw [← hL2])
        clear hL2
        have b7 : ((L2 : Int) == 0) = false := beq_eq_false_iff_ne.2 (by omega)
        have b8 : ¬ (L2 : Int) = 0 := by omega
        go_wp2_with fail
        refine (LW.out _ _ ⟨_, _, rfl, hV.2.2.2.1, hV.2.2.2.2⟩).mono ?_
        rintro e w9 ⟨v9, rfl, hf9, hb9⟩
        replace hV := hV.step hb9
        clear hb9 c0 c1 c2 c3 c4 c5 c6 c7 c8 c9
        go_wp2_with fail
        refine (TX.out _ _ hf9).mono ?_
        rintro e w10 ⟨sx, rfl, hx, hb10⟩
        replace hV := hV.step hb10
        have hq : (sx.toList == s.toList) = false := by rw [toList_data, toList_data, hx]; exact beq_eq_false_iff_ne.2 ht.out
        have HX := Lib.hid hx
        clear hb10 hf9 hx
        obtain ⟨c0, c1, c2, c3, c4, c5, c6, c7, c8, c9⟩ := hV.cells
        have hq2 : ¬ sx.toList = s.toList := beq_eq_false_iff_ne.1 hq
        go_wp2
        refine bodyPost_ret (v := .tuple #[.agg #[.int .i64 0, .int .i64 0], .int .i64 3]) (by simp [results, Tryd.results7, go_sem, c6, c7]) rfl ⟨rfl, (((hV.fin).setCell (by simp) _).setCell (by simp) _)⟩
      · obtain ⟨i, rfl⟩ : ∃ i, j = i + 1 := ⟨j - 1, by omega⟩
        have hi : i < s.size := by omega
        have hy1 : y = (i : Int) := by omega
        subst hy1
        have hlen : i < s.data.toList.length := by rw [sz_len]; exact hi
        have hli : s.data.toList[i] = s[i]'hi := by
          have := HL.out i hi
          rw [List.getElem?_eq_getElem hlen] at this
          exact Option.some.inj this
        by_cases h47 : (s[i]'hi).toNat = 47
        · have hh : (ffrom s.data.toList i : Nat) = i := ffrom_hit _ i hlen (by rw [hli]; exact UInt8.toNat_inj.1 h47)
          have HH := Lib.hid hh
          clear hh hli hlen hf hy
          go_wp2
          exact ⟨⟨i, _, _, by omega, rfl, rfl, by go_num, by rw [HH.out]⟩, (by first | (simp; done) | (simp; omega))⟩
        · have hh : ffrom s.data.toList i = ffrom s.data.toList (i + 1) := ffrom_miss _ i hlen (by rw [hli]; intro e; exact h47 (by rw [e]; rfl))
          have HH := Lib.hid hh
          obtain ⟨z, hz⟩ : ∃ z, (s[i]'hi).toNat = z := ⟨_, rfl⟩
          rw [hz] at h47
          have e1 : ((z : Int) == 47) = false := beq_eq_false_iff_ne.2 (by omega)
          have e2 : ¬ (z : Int) = 47 := by omega
          have HF := Lib.hid hf
          clear hh hli hlen hf hy
          go_wp2
          exact ⟨⟨i, _, _, by omega, rfl, rfl, by go_num, by rw [HH.out]; exact HF.out⟩, (by first | (simp; done) | (simp; omega))⟩

set_option maxRecDepth 20000 in
set_option maxHeartbeats 2000000 in
theorem rparse_tsg (s : ByteArray) (w : World) (hs : s.size ≤ 40) (h0 : 0 < s.size) (h45 : (s[0]'h0).toNat = 45) (sl : Nat) (HSL : Hid (sl = ffrom s.data.toList 0)) (hfr : 1 ≤ sl) (_hsz : sl ≤ s.size) (hslt : sl < s.size) (m n : Nat) (RN : Hid (ReadC (s.extract 1 sl) m)) (RD : Hid (ReadC (s.extract (sl + 1) s.size) n)) (hn0 : 0 < n) (x : Bool) (p q : Nat) (t : List UInt8) (LW : Hid (LowC true m n x p q)) (TX : Hid (TexC x p q t)) (ht : Hid (t = s.data.toList)) (NR : Hid (NarC true m n)) :
    Calls Tryd.prog 7 #[.string s] w fun e w' => e = RatE (ratioS true m n) ∧ Below w.heap.size w w' := by
  have hs2 : (s.size : Int) ≤ 40 := by omega
  have hS := RpT.start w
  have b4 : (sl : Int) < (s.size : Int) := by omega
  clear hslt
  obtain ⟨z, hz⟩ : ∃ z, (s[0]'h0).toNat = z := ⟨_, rfl⟩
  have hz45 : z = 45 := by rw [← hz]; exact h45
  clear h45
  go_enter Tryd.func7, Tryd.ntmps7
  go_upto_region 5 with fail
  obtain ⟨w4, hw4⟩ : ∃ x, x = ((w.alloc (Obj.cells #[.int .i64 0, .int .i64 0] 23)).alloc (Obj.cells #[.int .i64 1] 3)).alloc (Obj.cells #[.bool false, .slice none 0 0, .slice (some ⟨w.heap.size + 1, 0, none⟩) 1 1] 54) := ⟨_, rfl⟩
  rw [← hw4] at hS
  (try rw [← hw4])
  clear hw4
  obtain ⟨bx, hbx⟩ : ∃ b, b = w.heap.size + 1 + 1 := ⟨_, rfl⟩
  rw [← hbx] at hS
  (try rw [← hbx])
  clear hbx
  obtain ⟨qd, hqd⟩ : ∃ b, b = some (⟨w.heap.size + 1, 0, none⟩ : Addr) := ⟨_, rfl⟩
  rw [← hqd] at hS
  (try rw [← hqd])
  clear hqd
  go_cut [23] (fun s23 wx => s23 = .bool true ∧ wx = w4)
  case first =>
    subst hz45
    go_wp2_with fail
    go_meet
    exact ⟨rfl, rfl⟩
  case rest =>
    obtain ⟨rfl, rfl⟩ := hcut
    clear hz hz45 h0
    obtain ⟨c0, c1, c2, c3, c4, c5, c6, c7, c8, c9⟩ := hS.cells
    go_upto_region 7 with fail
    clear c0 c1 c2 c3 c4 c5 c6 c7 c8 c9
    replace hS := hS.set0 true
    obtain ⟨w5, hw5⟩ : ∃ x, x = wc.setCell ⟨bx, 0, none⟩ (.bool true) := ⟨_, rfl⟩
    rw [← hw5] at hS
    rw [← hw5]
    clear hw5
    go_wp2_with fail
    have HL := Lib.hid (fun (i : Nat) (h : i < s.size) => show s.data.toList[i]? = some s[i] from Lib.data_getElem? s i h)
    go_loop [6, 7] (fun s6 s7 => ∃ (j : Nat) (y f : Int), j ≤ s.size ∧ s7 = .int .i64 y ∧ s6 = .int .i64 f ∧ y = (j : Int) - 1 ∧ f = (ffrom s.data.toList j : Nat)) (fun _ s7 => match s7 with | .int _ x => (x + 1).toNat | _ => 0)
    case atStart => exact ⟨s.size, _, _, Nat.le_refl _, rfl, rfl, rfl, by rw [← sz_len, ffrom_end]⟩
    case round =>
      obtain ⟨j, y, f, hj, rfl, rfl, hy, hf⟩ := hrel
      rcases Nat.eq_zero_or_pos j with hj0 | hj0
      · subst hj0
        have hy1 : y = -1 := by omega
        have hf1 : f = (sl : Int) := by rw [HSL.out]; exact hf
        subst hy1
        subst hf1
        clear hy hf hj
        obtain ⟨c0, c1, c2, c3, c4, c5, c6, c7, c8, c9⟩ := hS.cells
        have b1 : ¬ (sl : Int) < 1 := by omega
        have b2 : (1 : Int) ≤ (sl : Int) := by omega
        have b3 : (sl : Int) ≤ (s.size : Int) := by omega
        go_wp2_with fail
        refine (RN.out _).mono ?_
        rintro e w6 ⟨⟨a1, r1, rfl, n1⟩, hb6⟩
        replace hS := hS.step hb6
        clear hb6 c0 c1 c2 c3 c4 c5 c6 c7 c8 c9
        obtain ⟨c0, c1, c2, c3, c4, c5, c6, c7, c8, c9⟩ := hS.cells
        have hU := hS.set1 n1
        have hm1 : ∀ x, x = (digs R15 m).length → RpT w bx true (.slice a1 x r1) (.slice qd 1 1) m 1 (w6.setCell ⟨bx, 1, none⟩ (.slice a1 x r1)) := by rintro x rfl; exact hU
        obtain ⟨L1, hL1⟩ : ∃ x, x = (digs R15 m).length := ⟨_, rfl⟩
        replace hU := hm1 L1 hL1
        clear hm1 n1 hS
        (try rw [← hL1])
        clear hL1
        have b5 : (0 : Int) ≤ (sl : Int) + 1 := by omega
        have b6 : (sl : Int) + 1 ≤ (s.size : Int) := by omega
        go_wp2_with fail
        obtain ⟨w7, hw7⟩ : ∃ x, x = w6.setCell ⟨bx, 1, none⟩ (.slice a1 L1 r1) := ⟨_, rfl⟩
        rw [← hw7] at hU
        rw [← hw7]
        clear hw7 c0 c1 c2 c3 c4 c5 c6 c7 c8 c9
        refine (RD.out _).mono ?_
        rintro e w8 ⟨⟨a2, r2, rfl, n2⟩, hb8⟩
        replace hU := hU.step hb8
        clear hb8
        obtain ⟨c0, c1, c2, c3, c4, c5, c6, c7, c8, c9⟩ := hU.cells
        have hV := hU.set2 n2
        have hm2 : ∀ x, x = (digs R15 n).length → RpT w bx true (.slice a1 L1 r1) (.slice a2 x r2) m n (w8.setCell ⟨bx, 2, none⟩ (.slice a2 x r2)) := by rintro x rfl; exact hV
        have hpos : 0 < (digs R15 n).length := by rw [digs_pos R15 n R15_ge hn0]; simp
        obtain ⟨L2, hL2⟩ : ∃ x, x = (digs R15 n).length := ⟨_, rfl⟩
        rw [← hL2] at hpos
        replace hV := hm2 L2 hL2
        clear hm2 n2 hU
        (try rw [← hL2])
        clear hL2
        have b7 : ((L2 : Int) == 0) = false := beq_eq_false_iff_ne.2 (by omega)
        have b8 : ¬ (L2 : Int) = 0 := by omega
        go_wp2_with fail
        refine (LW.out _ _ ⟨_, _, rfl, hV.2.2.2.1, hV.2.2.2.2⟩).mono ?_
        rintro e w9 ⟨v9, rfl, hf9, hb9⟩
        replace hV := hV.step hb9
        clear hb9 c0 c1 c2 c3 c4 c5 c6 c7 c8 c9
        go_wp2_with fail
        refine (TX.out _ _ hf9).mono ?_
        rintro e w10 ⟨sx, rfl, hx, hb10⟩
        replace hV := hV.step hb10
        have hq : (sx.toList == s.toList) = true := by rw [toList_data, toList_data, hx]; rw [ht.out]; exact beq_self_eq_true _
        have HX := Lib.hid hx
        clear hb10 hf9 hx
        obtain ⟨c0, c1, c2, c3, c4, c5, c6, c7, c8, c9⟩ := hV.cells
        have hq2 : sx.toList = s.toList := beq_iff_eq.1 hq
        go_wp2_with fail
        refine (NR.out _ _ ⟨_, _, rfl, hV.2.2.2.1, hV.2.2.2.2⟩).mono ?_
        rintro e w11 ⟨he, hb11⟩
        obtain ⟨x1, x2, x3, hxx, he'⟩ := RatE_cases he
        subst he'
        have hI := hV.1.step hb11
        obtain ⟨k1, k2, k3, k4⟩ := hI.cells
        clear hb11
        go_wp2
        refine bodyPost_ret (v := .tuple #[.agg #[.int .i64 x1, .int .i64 x2], .int .i64 x3]) (by simp [results, Tryd.results7, go_sem, k1, k2]) rfl ⟨?_, (hI.1.setCell (by simp) _).setCell (by simp) _⟩
        rw [← hxx]
        rfl
      · obtain ⟨i, rfl⟩ : ∃ i, j = i + 1 := ⟨j - 1, by omega⟩
        have hi : i < s.size := by omega
        have hy1 : y = (i : Int) := by omega
        subst hy1
        have hlen : i < s.data.toList.length := by rw [sz_len]; exact hi
        have hli : s.data.toList[i] = s[i]'hi := by
          have := HL.out i hi
          rw [List.getElem?_eq_getElem hlen] at this
          exact Option.some.inj this
        by_cases h47 : (s[i]'hi).toNat = 47
        · have hh : (ffrom s.data.toList i : Nat) = i := ffrom_hit _ i hlen (by rw [hli]; exact UInt8.toNat_inj.1 h47)
          have HH := Lib.hid hh
          clear hh hli hlen hf hy
          go_wp2
          exact ⟨⟨i, _, _, by omega, rfl, rfl, by go_num, by rw [HH.out]⟩, (by first | (simp; done) | (simp; omega))⟩
        · have hh : ffrom s.data.toList i = ffrom s.data.toList (i + 1) := ffrom_miss _ i hlen (by rw [hli]; intro e; exact h47 (by rw [e]; rfl))
          have HH := Lib.hid hh
          obtain ⟨z, hz⟩ : ∃ z, (s[i]'hi).toNat = z := ⟨_, rfl⟩
          rw [hz] at h47
          have e1 : ((z : Int) == 47) = false := beq_eq_false_iff_ne.2 (by omega)
          have e2 : ¬ (z : Int) = 47 := by omega
          have HF := Lib.hid hf
          clear hh hli hlen hf hy
          go_wp2
          exact ⟨⟨i, _, _, by omega, rfl, rfl, by go_num, by rw [HH.out]; exact HF.out⟩, (by first | (simp; done) | (simp; omega))⟩

set_option maxRecDepth 20000 in
set_option maxHeartbeats 2000000 in
theorem rparse_tnb (s : ByteArray) (w : World) (hs : s.size ≤ 40) (h0 : 0 < s.size) (h45 : (s[0]'h0).toNat = 45) (sl : Nat) (HSL : Hid (sl = ffrom s.data.toList 0)) (hfr : 1 ≤ sl) (hsz : sl ≤ s.size) (hslt : sl = s.size) (m n : Nat) (RN : Hid (ReadC (s.extract 1 sl) m)) (hn1 : n = 1) (hn0 : 0 < n) (x : Bool) (p q : Nat) (t : List UInt8) (LW : Hid (LowC true m n x p q)) (TX : Hid (TexC x p q t)) (ht : Hid (t ≠ s.data.toList)) :
    Calls Tryd.prog 7 #[.string s] w fun e w' => e = RatE (0, 0, 3) ∧ Below w.heap.size w w' := by
  have hs2 : (s.size : Int) ≤ 40 := by omega
  have hS := RpT.start w
  have b4 : ¬ (sl : Int) < (s.size : Int) := by omega
  clear hslt
  obtain ⟨z, hz⟩ : ∃ z, (s[0]'h0).toNat = z := ⟨_, rfl⟩
  have hz45 : z = 45 := by rw [← hz]; exact h45
  clear h45
  go_enter Tryd.func7, Tryd.ntmps7
  go_upto_region 5 with fail
  obtain ⟨w4, hw4⟩ : ∃ x, x = ((w.alloc (Obj.cells #[.int .i64 0, .int .i64 0] 23)).alloc (Obj.cells #[.int .i64 1] 3)).alloc (Obj.cells #[.bool false, .slice none 0 0, .slice (some ⟨w.heap.size + 1, 0, none⟩) 1 1] 54) := ⟨_, rfl⟩
  rw [← hw4] at hS
  (try rw [← hw4])
  clear hw4
  obtain ⟨bx, hbx⟩ : ∃ b, b = w.heap.size + 1 + 1 := ⟨_, rfl⟩
  rw [← hbx] at hS
  (try rw [← hbx])
  clear hbx
  obtain ⟨qd, hqd⟩ : ∃ b, b = some (⟨w.heap.size + 1, 0, none⟩ : Addr) := ⟨_, rfl⟩
  rw [← hqd] at hS
  (try rw [← hqd])
  clear hqd
  go_cut [23] (fun s23 wx => s23 = .bool true ∧ wx = w4)
  case first =>
    subst hz45
    go_wp2_with fail
    go_meet
    exact ⟨rfl, rfl⟩
  case rest =>
    obtain ⟨rfl, rfl⟩ := hcut
    clear hz hz45 h0
    obtain ⟨c0, c1, c2, c3, c4, c5, c6, c7, c8, c9⟩ := hS.cells
    go_upto_region 7 with fail
    clear c0 c1 c2 c3 c4 c5 c6 c7 c8 c9
    replace hS := hS.set0 true
    obtain ⟨w5, hw5⟩ : ∃ x, x = wc.setCell ⟨bx, 0, none⟩ (.bool true) := ⟨_, rfl⟩
    rw [← hw5] at hS
    rw [← hw5]
    clear hw5
    go_wp2_with fail
    have HL := Lib.hid (fun (i : Nat) (h : i < s.size) => show s.data.toList[i]? = some s[i] from Lib.data_getElem? s i h)
    go_loop [6, 7] (fun s6 s7 => ∃ (j : Nat) (y f : Int), j ≤ s.size ∧ s7 = .int .i64 y ∧ s6 = .int .i64 f ∧ y = (j : Int) - 1 ∧ f = (ffrom s.data.toList j : Nat)) (fun _ s7 => match s7 with | .int _ x => (x + 1).toNat | _ => 0)
    case atStart => exact ⟨s.size, _, _, Nat.le_refl _, rfl, rfl, rfl, by rw [← sz_len, ffrom_end]⟩
    case round =>
      obtain ⟨j, y, f, hj, rfl, rfl, hy, hf⟩ := hrel
      rcases Nat.eq_zero_or_pos j with hj0 | hj0
      · subst hj0
        have hy1 : y = -1 := by omega
        have hf1 : f = (sl : Int) := by rw [HSL.out]; exact hf
        subst hy1
        subst hf1
        clear hy hf hj
        obtain ⟨c0, c1, c2, c3, c4, c5, c6, c7, c8, c9⟩ := hS.cells
        have b1 : ¬ (sl : Int) < 1 := by omega
        have b2 : (1 : Int) ≤ (sl : Int) := by omega
        have b3 : (sl : Int) ≤ (s.size : Int) := by omega
        go_wp2_with fail
        refine (RN.out _).mono ?_
        rintro e w6 ⟨⟨a1, r1, rfl, n1⟩, hb6⟩
        replace hS := hS.step hb6
        clear hb6 c0 c1 c2 c3 c4 c5 c6 c7 c8 c9
        obtain ⟨c0, c1, c2, c3, c4, c5, c6, c7, c8, c9⟩ := hS.cells
        have hU := hS.set1 n1
        have hm1 : ∀ x, x = (digs R15 m).length → RpT w bx true (.slice a1 x r1) (.slice qd 1 1) m 1 (w6.setCell ⟨bx, 1, none⟩ (.slice a1 x r1)) := by rintro x rfl; exact hU
        obtain ⟨L1, hL1⟩ : ∃ x, x = (digs R15 m).length := ⟨_, rfl⟩
        replace hU := hm1 L1 hL1
        clear hm1 n1 hS
        (try rw [← hL1])
        clear hL1
        subst hn1
        have hV := hU
        clear hU
        go_wp2_with fail
        refine (LW.out _ _ ⟨_, _, rfl, hV.2.2.2.1, hV.2.2.2.2⟩).mono ?_
        rintro e w9 ⟨v9, rfl, hf9, hb9⟩
        replace hV := hV.step hb9
        clear hb9 c0 c1 c2 c3 c4 c5 c6 c7 c8 c9
        go_wp2_with fail
        refine (TX.out _ _ hf9).mono ?_
        rintro e w10 ⟨sx, rfl, hx, hb10⟩
        replace hV := hV.step hb10
        have hq : (sx.toList == s.toList) = false := by rw [toList_data, toList_data, hx]; exact beq_eq_false_iff_ne.2 ht.out
        have HX := Lib.hid hx
        clear hb10 hf9 hx
        obtain ⟨c0, c1, c2, c3, c4, c5, c6, c7, c8, c9⟩ := hV.cells
        have hq2 : ¬ sx.toList = s.toList := beq_eq_false_iff_ne.1 hq
        go_wp2
        refine bodyPost_ret (v := .tuple #[.agg #[.int .i64 0, .int .i64 0], .int .i64 3]) (by simp [results, Tryd.results7, go_sem, c6, c7]) rfl ⟨rfl, (((hV.fin).setCell (by simp) _).setCell (by simp) _)⟩
      · obtain ⟨i, rfl⟩ : ∃ i, j = i + 1 := ⟨j - 1, by omega⟩
        have hi : i < s.size := by omega
        have hy1 : y = (i : Int) := by omega
        subst hy1
        have hlen : i < s.data.toList.length := by rw [sz_len]; exact hi
        have hli : s.data.toList[i] = s[i]'hi := by
          have := HL.out i hi
          rw [List.getElem?_eq_getElem hlen] at this
          exact Option.some.inj this
        by_cases h47 : (s[i]'hi).toNat = 47
        · have hh : (ffrom s.data.toList i : Nat) = i := ffrom_hit _ i hlen (by rw [hli]; exact UInt8.toNat_inj.1 h47)
          have HH := Lib.hid hh
          clear hh hli hlen hf hy
          go_wp2
          exact ⟨⟨i, _, _, by omega, rfl, rfl, by go_num, by rw [HH.out]⟩, (by first | (simp; done) | (simp; omega))⟩
        · have hh : ffrom s.data.toList i = ffrom s.data.toList (i + 1) := ffrom_miss _ i hlen (by rw [hli]; intro e; exact h47 (by rw [e]; rfl))
          have HH := Lib.hid hh
          obtain ⟨z, hz⟩ : ∃ z, (s[i]'hi).toNat = z := ⟨_, rfl⟩
          rw [hz] at h47
          have e1 : ((z : Int) == 47) = false := beq_eq_false_iff_ne.2 (by omega)
          have e2 : ¬ (z : Int) = 47 := by omega
          have HF := Lib.hid hf
          clear hh hli hlen hf hy
          go_wp2
          exact ⟨⟨i, _, _, by omega, rfl, rfl, by go_num, by rw [HH.out]; exact HF.out⟩, (by first | (simp; done) | (simp; omega))⟩

set_option maxRecDepth 20000 in
set_option maxHeartbeats 2000000 in
theorem rparse_tng (s : ByteArray) (w : World) (hs : s.size ≤ 40) (h0 : 0 < s.size) (h45 : (s[0]'h0).toNat = 45) (sl : Nat) (HSL : Hid (sl = ffrom s.data.toList 0)) (hfr : 1 ≤ sl) (hsz : sl ≤ s.size) (hslt : sl = s.size) (m n : Nat) (RN : Hid (ReadC (s.extract 1 sl) m)) (hn1 : n = 1) (hn0 : 0 < n) (x : Bool) (p q : Nat) (t : List UInt8) (LW : Hid (LowC true m n x p q)) (TX : Hid (TexC x p q t)) (ht : Hid (t = s.data.toList)) (NR : Hid (NarC true m n)) :
    Calls Tryd.prog 7 #[.string s] w fun e w' => e = RatE (ratioS true m n) ∧ Below w.heap.size w w' := by
  have hs2 : (s.size : Int) ≤ 40 := by omega
  have hS := RpT.start w
  have b4 : ¬ (sl : Int) < (s.size : Int) := by omega
  clear hslt
  obtain ⟨z, hz⟩ : ∃ z, (s[0]'h0).toNat = z := ⟨_, rfl⟩
  have hz45 : z = 45 := by rw [← hz]; exact h45
  clear h45
  go_enter Tryd.func7, Tryd.ntmps7
  go_upto_region 5 with fail
  obtain ⟨w4, hw4⟩ : ∃ x, x = ((w.alloc (Obj.cells #[.int .i64 0, .int .i64 0] 23)).alloc (Obj.cells #[.int .i64 1] 3)).alloc (Obj.cells #[.bool false, .slice none 0 0, .slice (some ⟨w.heap.size + 1, 0, none⟩) 1 1] 54) := ⟨_, rfl⟩
  rw [← hw4] at hS
  (try rw [← hw4])
  clear hw4
  obtain ⟨bx, hbx⟩ : ∃ b, b = w.heap.size + 1 + 1 := ⟨_, rfl⟩
  rw [← hbx] at hS
  (try rw [← hbx])
  clear hbx
  obtain ⟨qd, hqd⟩ : ∃ b, b = some (⟨w.heap.size + 1, 0, none⟩ : Addr) := ⟨_, rfl⟩
  rw [← hqd] at hS
  (try rw [← hqd])
  clear hqd
  go_cut [23] (fun s23 wx => s23 = .bool true ∧ wx = w4)
  case first =>
    subst hz45
    go_wp2_with fail
    go_meet
    exact ⟨rfl, rfl⟩
  case rest =>
    obtain ⟨rfl, rfl⟩ := hcut
    clear hz hz45 h0
    obtain ⟨c0, c1, c2, c3, c4, c5, c6, c7, c8, c9⟩ := hS.cells
    go_upto_region 7 with fail
    clear c0 c1 c2 c3 c4 c5 c6 c7 c8 c9
    replace hS := hS.set0 true
    obtain ⟨w5, hw5⟩ : ∃ x, x = wc.setCell ⟨bx, 0, none⟩ (.bool true) := ⟨_, rfl⟩
    rw [← hw5] at hS
    rw [← hw5]
    clear hw5
    go_wp2_with fail
    have HL := Lib.hid (fun (i : Nat) (h : i < s.size) => show s.data.toList[i]? = some s[i] from Lib.data_getElem? s i h)
    go_loop [6, 7] (fun s6 s7 => ∃ (j : Nat) (y f : Int), j ≤ s.size ∧ s7 = .int .i64 y ∧ s6 = .int .i64 f ∧ y = (j : Int) - 1 ∧ f = (ffrom s.data.toList j : Nat)) (fun _ s7 => match s7 with | .int _ x => (x + 1).toNat | _ => 0)
    case atStart => exact ⟨s.size, _, _, Nat.le_refl _, rfl, rfl, rfl, by rw [← sz_len, ffrom_end]⟩
    case round =>
      obtain ⟨j, y, f, hj, rfl, rfl, hy, hf⟩ := hrel
      rcases Nat.eq_zero_or_pos j with hj0 | hj0
      · subst hj0
        have hy1 : y = -1 := by omega
        have hf1 : f = (sl : Int) := by rw [HSL.out]; exact hf
        subst hy1
        subst hf1
        clear hy hf hj
        obtain ⟨c0, c1, c2, c3, c4, c5, c6, c7, c8, c9⟩ := hS.cells
        have b1 : ¬ (sl : Int) < 1 := by omega
        have b2 : (1 : Int) ≤ (sl : Int) := by omega
        have b3 : (sl : Int) ≤ (s.size : Int) := by omega
        go_wp2_with fail
        refine (RN.out _).mono ?_
        rintro e w6 ⟨⟨a1, r1, rfl, n1⟩, hb6⟩
        replace hS := hS.step hb6
        clear hb6 c0 c1 c2 c3 c4 c5 c6 c7 c8 c9
        obtain ⟨c0, c1, c2, c3, c4, c5, c6, c7, c8, c9⟩ := hS.cells
        have hU := hS.set1 n1
        have hm1 : ∀ x, x = (digs R15 m).length → RpT w bx true (.slice a1 x r1) (.slice qd 1 1) m 1 (w6.setCell ⟨bx, 1, none⟩ (.slice a1 x r1)) := by rintro x rfl; exact hU
        obtain ⟨L1, hL1⟩ : ∃ x, x = (digs R15 m).length := ⟨_, rfl⟩
        replace hU := hm1 L1 hL1
        clear hm1 n1 hS
        (try rw [← hL1])
        clear hL1
        subst hn1
        have hV := hU
        clear hU
        go_wp2_with fail
        refine (LW.out _ _ ⟨_, _, rfl, hV.2.2.2.1, hV.2.2.2.2⟩).mono ?_
        rintro e w9 ⟨v9, rfl, hf9, hb9⟩
        replace hV := hV.step hb9
        clear hb9 c0 c1 c2 c3 c4 c5 c6 c7 c8 c9
        go_wp2_with fail
        refine (TX.out _ _ hf9).mono ?_
        rintro e w10 ⟨sx, rfl, hx, hb10⟩
        replace hV := hV.step hb10
        have hq : (sx.toList == s.toList) = true := by rw [toList_data, toList_data, hx]; rw [ht.out]; exact beq_self_eq_true _
        have HX := Lib.hid hx
        clear hb10 hf9 hx
        obtain ⟨c0, c1, c2, c3, c4, c5, c6, c7, c8, c9⟩ := hV.cells
        have hq2 : sx.toList = s.toList := beq_iff_eq.1 hq
        go_wp2_with fail
        refine (NR.out _ _ ⟨_, _, rfl, hV.2.2.2.1, hV.2.2.2.2⟩).mono ?_
        rintro e w11 ⟨he, hb11⟩
        obtain ⟨x1, x2, x3, hxx, he'⟩ := RatE_cases he
        subst he'
        have hI := hV.1.step hb11
        obtain ⟨k1, k2, k3, k4⟩ := hI.cells
        clear hb11
        go_wp2
        refine bodyPost_ret (v := .tuple #[.agg #[.int .i64 x1, .int .i64 x2], .int .i64 x3]) (by simp [results, Tryd.results7, go_sem, k1, k2]) rfl ⟨?_, (hI.1.setCell (by simp) _).setCell (by simp) _⟩
        rw [← hxx]
        rfl
      · obtain ⟨i, rfl⟩ : ∃ i, j = i + 1 := ⟨j - 1, by omega⟩
        have hi : i < s.size := by omega
        have hy1 : y = (i : Int) := by omega
        subst hy1
        have hlen : i < s.data.toList.length := by rw [sz_len]; exact hi
        have hli : s.data.toList[i] = s[i]'hi := by
          have := HL.out i hi
          rw [List.getElem?_eq_getElem hlen] at this
          exact Option.some.inj this
        by_cases h47 : (s[i]'hi).toNat = 47
        · have hh : (ffrom s.data.toList i : Nat) = i := ffrom_hit _ i hlen (by rw [hli]; exact UInt8.toNat_inj.1 h47)
          have HH := Lib.hid hh
          clear hh hli hlen hf hy
          go_wp2
          exact ⟨⟨i, _, _, by omega, rfl, rfl, by go_num, by rw [HH.out]⟩, (by first | (simp; done) | (simp; omega))⟩
        · have hh : ffrom s.data.toList i = ffrom s.data.toList (i + 1) := ffrom_miss _ i hlen (by rw [hli]; intro e; exact h47 (by rw [e]; rfl))
          have HH := Lib.hid hh
          obtain ⟨z, hz⟩ : ∃ z, (s[i]'hi).toNat = z := ⟨_, rfl⟩
          rw [hz] at h47
          have e1 : ((z : Int) == 47) = false := beq_eq_false_iff_ne.2 (by omega)
          have e2 : ¬ (z : Int) = 47 := by omega
          have HF := Lib.hid hf
          clear hh hli hlen hf hy
          go_wp2
          exact ⟨⟨i, _, _, by omega, rfl, rfl, by go_num, by rw [HH.out]; exact HF.out⟩, (by first | (simp; done) | (simp; omega))⟩

set_option maxRecDepth 20000 in
set_option maxHeartbeats 2000000 in
theorem rparse_fsz (s : ByteArray) (w : World) (hs : s.size ≤ 40) (h0 : s.size = 0 ∨ ∃ h : 0 < s.size, (s[0]'h).toNat ≠ 45) (sl : Nat) (HSL : Hid (sl = ffrom s.data.toList 0)) (hfr : 0 ≤ sl) (_hsz : sl ≤ s.size) (hslt : sl < s.size) (m n : Nat) (RN : Hid (ReadC (s.extract 0 sl) m)) (RD : Hid (ReadC (s.extract (sl + 1) s.size) n)) (hn0 : n = 0) :
    Calls Tryd.prog 7 #[.string s] w fun e w' => e = RatE (0, 0, 3) ∧ Below w.heap.size w w' := by
  have hs2 : (s.size : Int) ≤ 40 := by omega
  have hS := RpT.start w
  have b4 : (sl : Int) < (s.size : Int) := by omega
  clear hslt
  go_enter Tryd.func7, Tryd.ntmps7
  go_upto_region 5 with fail
  obtain ⟨w4, hw4⟩ : ∃ x, x = ((w.alloc (Obj.cells #[.int .i64 0, .int .i64 0] 23)).alloc (Obj.cells #[.int .i64 1] 3)).alloc (Obj.cells #[.bool false, .slice none 0 0, .slice (some ⟨w.heap.size + 1, 0, none⟩) 1 1] 54) := ⟨_, rfl⟩
  rw [← hw4] at hS
  (try rw [← hw4])
  clear hw4
  obtain ⟨bx, hbx⟩ : ∃ b, b = w.heap.size + 1 + 1 := ⟨_, rfl⟩
  rw [← hbx] at hS
  (try rw [← hbx])
  clear hbx
  obtain ⟨qd, hqd⟩ : ∃ b, b = some (⟨w.heap.size + 1, 0, none⟩ : Addr) := ⟨_, rfl⟩
  rw [← hqd] at hS
  (try rw [← hqd])
  clear hqd
  go_cut [23] (fun s23 wx => s23 = .bool false ∧ wx = w4)
  case first =>
    rcases h0 with h0 | ⟨h0, h45⟩
    · have h1 : decide ((0 : Int) < (s.size : Int)) = false := decide_eq_false (by omega)
      have h2 : decide (0 < s.size) = false := decide_eq_false (by omega)
      clear h0
      go_wp2_with fail
      go_meet
      exact ⟨rfl, rfl⟩
    · have H9 := Lib.hid (show ((((s[0]'h0).toNat : Nat) : Int) == 45) = false from beq_eq_false_iff_ne.2 (by omega))
      clear h45
      go_wp2_with fail
      go_meet
      exact ⟨congrArg Value.bool H9.out, rfl⟩
  case rest =>
    obtain ⟨rfl, rfl⟩ := hcut
    clear h0
    obtain ⟨c0, c1, c2, c3, c4, c5, c6, c7, c8, c9⟩ := hS.cells
    go_upto_region 7 with fail
    clear c0 c1 c2 c3 c4 c5 c6 c7 c8 c9
    go_wp2_with fail
    have HL := Lib.hid (fun (i : Nat) (h : i < s.size) => show s.data.toList[i]? = some s[i] from Lib.data_getElem? s i h)
    go_loop [6, 7] (fun s6 s7 => ∃ (j : Nat) (y f : Int), j ≤ s.size ∧ s7 = .int .i64 y ∧ s6 = .int .i64 f ∧ y = (j : Int) - 1 ∧ f = (ffrom s.data.toList j : Nat)) (fun _ s7 => match s7 with | .int _ x => (x + 1).toNat | _ => 0)
    case atStart => exact ⟨s.size, _, _, Nat.le_refl _, rfl, rfl, rfl, by rw [← sz_len, ffrom_end]⟩
    case round =>
      obtain ⟨j, y, f, hj, rfl, rfl, hy, hf⟩ := hrel
      rcases Nat.eq_zero_or_pos j with hj0 | hj0
      · subst hj0
        have hy1 : y = -1 := by omega
        have hf1 : f = (sl : Int) := by rw [HSL.out]; exact hf
        subst hy1
        subst hf1
        clear hy hf hj
        obtain ⟨c0, c1, c2, c3, c4, c5, c6, c7, c8, c9⟩ := hS.cells
        have b1 : ¬ (sl : Int) < 0 := by omega
        have b2 : (0 : Int) ≤ (sl : Int) := by omega
        have b3 : (sl : Int) ≤ (s.size : Int) := by omega
        go_wp2_with fail
        refine (RN.out _).mono ?_
        rintro e w6 ⟨⟨a1, r1, rfl, n1⟩, hb6⟩
        replace hS := hS.step hb6
        clear hb6 c0 c1 c2 c3 c4 c5 c6 c7 c8 c9
        obtain ⟨c0, c1, c2, c3, c4, c5, c6, c7, c8, c9⟩ := hS.cells
        have hU := hS.set1 n1
        have hm1 : ∀ x, x = (digs R15 m).length → RpT w bx false (.slice a1 x r1) (.slice qd 1 1) m 1 (w6.setCell ⟨bx, 1, none⟩ (.slice a1 x r1)) := by rintro x rfl; exact hU
        obtain ⟨L1, hL1⟩ : ∃ x, x = (digs R15 m).length := ⟨_, rfl⟩
        replace hU := hm1 L1 hL1
        clear hm1 n1 hS
        (try rw [← hL1])
        clear hL1
        have b5 : (0 : Int) ≤ (sl : Int) + 1 := by omega
        have b6 : (sl : Int) + 1 ≤ (s.size : Int) := by omega
        go_wp2_with fail
        obtain ⟨w7, hw7⟩ : ∃ x, x = w6.setCell ⟨bx, 1, none⟩ (.slice a1 L1 r1) := ⟨_, rfl⟩
        rw [← hw7] at hU
        rw [← hw7]
        clear hw7 c0 c1 c2 c3 c4 c5 c6 c7 c8 c9
        refine (RD.out _).mono ?_
        rintro e w8 ⟨⟨a2, r2, rfl, n2⟩, hb8⟩
        replace hU := hU.step hb8
        clear hb8
        obtain ⟨c0, c1, c2, c3, c4, c5, c6, c7, c8, c9⟩ := hU.cells
        have hV := hU.set2 n2
        subst hn0
        rw [digs_zero] at hV
        (try rw [digs_zero])
        have hV' : RpT w bx false (.slice a1 L1 r1) (.slice a2 0 r2) m 0 (w8.setCell ⟨bx, 2, none⟩ (.slice a2 0 r2)) := hV
        clear hU n2 hV
        have hV := hV'
        clear hV'
        go_wp2
        obtain ⟨k0, k1, k2, k3, k4, k5, k6, k7, k8, k9⟩ := hV.cells
        refine bodyPost_ret (v := .tuple #[.agg #[.int .i64 0, .int .i64 0], .int .i64 3]) (by simp [results, Tryd.results7, go_sem, k6, k7]) rfl ⟨rfl, (((hV.fin).setCell (by simp) _).setCell (by simp) _)⟩
      · obtain ⟨i, rfl⟩ : ∃ i, j = i + 1 := ⟨j - 1, by omega⟩
        have hi : i < s.size := by omega
        have hy1 : y = (i : Int) := by omega
        subst hy1
        have hlen : i < s.data.toList.length := by rw [sz_len]; exact hi
        have hli : s.data.toList[i] = s[i]'hi := by
          have := HL.out i hi
          rw [List.getElem?_eq_getElem hlen] at this
          exact Option.some.inj this
        by_cases h47 : (s[i]'hi).toNat = 47
        · have hh : (ffrom s.data.toList i : Nat) = i := ffrom_hit _ i hlen (by rw [hli]; exact UInt8.toNat_inj.1 h47)
          have HH := Lib.hid hh
          clear hh hli hlen hf hy
          go_wp2
          exact ⟨⟨i, _, _, by omega, rfl, rfl, by go_num, by rw [HH.out]⟩, (by first | (simp; done) | (simp; omega))⟩
        · have hh : ffrom s.data.toList i = ffrom s.data.toList (i + 1) := ffrom_miss _ i hlen (by rw [hli]; intro e; exact h47 (by rw [e]; rfl))
          have HH := Lib.hid hh
          obtain ⟨z, hz⟩ : ∃ z, (s[i]'hi).toNat = z := ⟨_, rfl⟩
          rw [hz] at h47
          have e1 : ((z : Int) == 47) = false := beq_eq_false_iff_ne.2 (by omega)
          have e2 : ¬ (z : Int) = 47 := by omega
          have HF := Lib.hid hf
          clear hh hli hlen hf hy
          go_wp2
          exact ⟨⟨i, _, _, by omega, rfl, rfl, by go_num, by rw [HH.out]; exact HF.out⟩, (by first | (simp; done) | (simp; omega))⟩

set_option maxRecDepth 20000 in
set_option maxHeartbeats 2000000 in
theorem rparse_fsb (s : ByteArray) (w : World) (hs : s.size ≤ 40) (h0 : s.size = 0 ∨ ∃ h : 0 < s.size, (s[0]'h).toNat ≠ 45) (sl : Nat) (HSL : Hid (sl = ffrom s.data.toList 0)) (hfr : 0 ≤ sl) (_hsz : sl ≤ s.size) (hslt : sl < s.size) (m n : Nat) (RN : Hid (ReadC (s.extract 0 sl) m)) (RD : Hid (ReadC (s.extract (sl + 1) s.size) n)) (hn0 : 0 < n) (x : Bool) (p q : Nat) (t : List UInt8) (LW : Hid (LowC false m n x p q)) (TX : Hid (TexC x p q t)) (ht : Hid (t ≠ s.data.toList)) :
    Calls Tryd.prog 7 #[.string s] w fun e w' => e = RatE (0, 0, 3) ∧ Below w.heap.size w w' := by
  have hs2 : (s.size : Int) ≤ 40 := by omega
  have hS := RpT.start w
  have b4 : (sl : Int) < (s.size : Int) := by omega
  clear hslt
  go_enter Tryd.func7, Tryd.ntmps7
  go_upto_region 5 with fail
  obtain ⟨w4, hw4⟩ : ∃ x, x = ((w.alloc (Obj.cells #[.int .i64 0, .int .i64 0] 23)).alloc (Obj.cells #[.int .i64 1] 3)).alloc (Obj.cells #[.bool false, .slice none 0 0, .slice (some ⟨w.heap.size + 1, 0, none⟩) 1 1] 54) := ⟨_, rfl⟩
  rw [← hw4] at hS
  (try rw [← hw4])
  clear hw4
  obtain ⟨bx, hbx⟩ : ∃ b, b = w.heap.size + 1 + 1 := ⟨_, rfl⟩
  rw [← hbx] at hS
  (try rw [← hbx])
  clear hbx
  obtain ⟨qd, hqd⟩ : ∃ b, b = some (⟨w.heap.size + 1, 0, none⟩ : Addr) := ⟨_, rfl⟩
  rw [← hqd] at hS
  (try rw [← hqd])
  clear hqd
  go_cut [23] (fun s23 wx => s23 = .bool false ∧ wx = w4)
  case first =>
    rcases h0 with h0 | ⟨h0, h45⟩
    · have h1 : decide ((0 : Int) < (s.size : Int)) = false := decide_eq_false (by omega)
      have h2 : decide (0 < s.size) = false := decide_eq_false (by omega)
      clear h0
      go_wp2_with fail
      go_meet
      exact ⟨rfl, rfl⟩
    · have H9 := Lib.hid (show ((((s[0]'h0).toNat : Nat) : Int) == 45) = false from beq_eq_false_iff_ne.2 (by omega))
      clear h45
      go_wp2_with fail
      go_meet
      exact ⟨congrArg Value.bool H9.out, rfl⟩
  case rest =>
    obtain ⟨rfl, rfl⟩ := hcut
    clear h0
    obtain ⟨c0, c1, c2, c3, c4, c5, c6, c7, c8, c9⟩ := hS.cells
    go_upto_region 7 with fail
    clear c0 c1 c2 c3 c4 c5 c6 c7 c8 c9
    go_wp2_with fail
    have HL := Lib.hid (fun (i : Nat) (h : i < s.size) => show s.data.toList[i]? = some s[i] from Lib.data_getElem? s i h)
    go_loop [6, 7] (fun s6 s7 => ∃ (j : Nat) (y f : Int), j ≤ s.size ∧ s7 = .int .i64 y ∧ s6 = .int .i64 f ∧ y = (j : Int) - 1 ∧ f = (ffrom s.data.toList j : Nat)) (fun _ s7 => match s7 with | .int _ x => (x + 1).toNat | _ => 0)
    case atStart => exact ⟨s.size, _, _, Nat.le_refl _, rfl, rfl, rfl, by rw [← sz_len, ffrom_end]⟩
    case round =>
      obtain ⟨j, y, f, hj, rfl, rfl, hy, hf⟩ := hrel
      rcases Nat.eq_zero_or_pos j with hj0 | hj0
      · subst hj0
        have hy1 : y = -1 := by omega
        have hf1 : f = (sl : Int) := by rw [HSL.out]; exact hf
        subst hy1
        subst hf1
        clear hy hf hj
        obtain ⟨c0, c1, c2, c3, c4, c5, c6, c7, c8, c9⟩ := hS.cells
        have b1 : ¬ (sl : Int) < 0 := by omega
        have b2 : (0 : Int) ≤ (sl : Int) := by omega
        have b3 : (sl : Int) ≤ (s.size : Int) := by omega
        go_wp2_with fail
        refine (RN.out _).mono ?_
        rintro e w6 ⟨⟨a1, r1, rfl, n1⟩, hb6⟩
        replace hS := hS.step hb6
        clear hb6 c0 c1 c2 c3 c4 c5 c6 c7 c8 c9
        obtain ⟨c0, c1, c2, c3, c4, c5, c6, c7, c8, c9⟩ := hS.cells
        have hU := hS.set1 n1
        have hm1 : ∀ x, x = (digs R15 m).length → RpT w bx false (.slice a1 x r1) (.slice qd 1 1) m 1 (w6.setCell ⟨bx, 1, none⟩ (.slice a1 x r1)) := by rintro x rfl; exact hU
        obtain ⟨L1, hL1⟩ : ∃ x, x = (digs R15 m).length := ⟨_, rfl⟩
        replace hU := hm1 L1 hL1
        clear hm1 n1 hS
        (try rw [← hL1])
        clear hL1
        have b5 : (0 : Int) ≤ (sl : Int) + 1 := by omega
        have b6 : (sl : Int) + 1 ≤ (s.size : Int) := by omega
        go_wp2_with fail
        obtain ⟨w7, hw7⟩ : ∃ x, x = w6.setCell ⟨bx, 1, none⟩ (.slice a1 L1 r1) := ⟨_, rfl⟩
        rw [← hw7] at hU
        rw [← hw7]
        clear hw7 c0 c1 c2 c3 c4 c5 c6 c7 c8 c9
        refine (RD.out _).mono ?_
        rintro e w8 ⟨⟨a2, r2, rfl, n2⟩, hb8⟩
        replace hU := hU.step hb8
        clear hb8
        obtain ⟨c0, c1, c2, c3, c4, c5, c6, c7, c8, c9⟩ := hU.cells
        have hV := hU.set2 n2
        have hm2 : ∀ x, x = (digs R15 n).length → RpT w bx false (.slice a1 L1 r1) (.slice a2 x r2) m n (w8.setCell ⟨bx, 2, none⟩ (.slice a2 x r2)) := by rintro x rfl; exact hV
        have hpos : 0 < (digs R15 n).length := by rw [digs_pos R15 n R15_ge hn0]; simp
        obtain ⟨L2, hL2⟩ : ∃ x, x = (digs R15 n).length := ⟨_, rfl⟩
        rw [← hL2] at hpos
        replace hV := hm2 L2 hL2
        clear hm2 n2 hU
        (try rw [← hL2])
        clear hL2
        have b7 : ((L2 : Int) == 0) = false := beq_eq_false_iff_ne.2 (by omega)
        have b8 : ¬ (L2 : Int) = 0 := by omega
        go_wp2_with fail
        refine (LW.out _ _ ⟨_, _, rfl, hV.2.2.2.1, hV.2.2.2.2⟩).mono ?_
        rintro e w9 ⟨v9, rfl, hf9, hb9⟩
        replace hV := hV.step hb9
        clear hb9 c0 c1 c2 c3 c4 c5 c6 c7 c8 c9
        go_wp2_with fail
        refine (TX.out _ _ hf9).mono ?_
        rintro e w10 ⟨sx, rfl, hx, hb10⟩
        replace hV := hV.step hb10
        have hq : (sx.toList == s.toList) = false := by rw [toList_data, toList_data, hx]; exact beq_eq_false_iff_ne.2 ht.out
        have HX := Lib.hid hx
        clear hb10 hf9 hx
        obtain ⟨c0, c1, c2, c3, c4, c5, c6, c7, c8, c9⟩ := hV.cells
        have hq2 : ¬ sx.toList = s.toList := beq_eq_false_iff_ne.1 hq
        go_wp2
        refine bodyPost_ret (v := .tuple #[.agg #[.int .i64 0, .int .i64 0], .int .i64 3]) (by simp [results, Tryd.results7, go_sem, c6, c7]) rfl ⟨rfl, (((hV.fin).setCell (by simp) _).setCell (by simp) _)⟩
      · obtain ⟨i, rfl⟩ : ∃ i, j = i + 1 := ⟨j - 1, by omega⟩
        have hi : i < s.size := by omega
        have hy1 : y = (i : Int) := by omega
        subst hy1
        have hlen : i < s.data.toList.length := by rw [sz_len]; exact hi
        have hli : s.data.toList[i] = s[i]'hi := by
          have := HL.out i hi
          rw [List.getElem?_eq_getElem hlen] at this
          exact Option.some.inj this
        by_cases h47 : (s[i]'hi).toNat = 47
        · have hh : (ffrom s.data.toList i : Nat) = i := ffrom_hit _ i hlen (by rw [hli]; exact UInt8.toNat_inj.1 h47)
          have HH := Lib.hid hh
          clear hh hli hlen hf hy
          go_wp2
          exact ⟨⟨i, _, _, by omega, rfl, rfl, by go_num, by rw [HH.out]⟩, (by first | (simp; done) | (simp; omega))⟩
        · have hh : ffrom s.data.toList i = ffrom s.data.toList (i + 1) := ffrom_miss _ i hlen (by rw [hli]; intro e; exact h47 (by rw [e]; rfl))
          have HH := Lib.hid hh
          obtain ⟨z, hz⟩ : ∃ z, (s[i]'hi).toNat = z := ⟨_, rfl⟩
          rw [hz] at h47
          have e1 : ((z : Int) == 47) = false := beq_eq_false_iff_ne.2 (by omega)
          have e2 : ¬ (z : Int) = 47 := by omega
          have HF := Lib.hid hf
          clear hh hli hlen hf hy
          go_wp2
          exact ⟨⟨i, _, _, by omega, rfl, rfl, by go_num, by rw [HH.out]; exact HF.out⟩, (by first | (simp; done) | (simp; omega))⟩

set_option maxRecDepth 20000 in
set_option maxHeartbeats 2000000 in
theorem rparse_fsg (s : ByteArray) (w : World) (hs : s.size ≤ 40) (h0 : s.size = 0 ∨ ∃ h : 0 < s.size, (s[0]'h).toNat ≠ 45) (sl : Nat) (HSL : Hid (sl = ffrom s.data.toList 0)) (hfr : 0 ≤ sl) (_hsz : sl ≤ s.size) (hslt : sl < s.size) (m n : Nat) (RN : Hid (ReadC (s.extract 0 sl) m)) (RD : Hid (ReadC (s.extract (sl + 1) s.size) n)) (hn0 : 0 < n) (x : Bool) (p q : Nat) (t : List UInt8) (LW : Hid (LowC false m n x p q)) (TX : Hid (TexC x p q t)) (ht : Hid (t = s.data.toList)) (NR : Hid (NarC false m n)) :
    Calls Tryd.prog 7 #[.string s] w fun e w' => e = RatE (ratioS false m n) ∧ Below w.heap.size w w' := by
  have hs2 : (s.size : Int) ≤ 40 := by omega
  have hS := RpT.start w
  have b4 : (sl : Int) < (s.size : Int) := by omega
  clear hslt
  go_enter Tryd.func7, Tryd.ntmps7
  go_upto_region 5 with fail
  obtain ⟨w4, hw4⟩ : ∃ x, x = ((w.alloc (Obj.cells #[.int .i64 0, .int .i64 0] 23)).alloc (Obj.cells #[.int .i64 1] 3)).alloc (Obj.cells #[.bool false, .slice none 0 0, .slice (some ⟨w.heap.size + 1, 0, none⟩) 1 1] 54) := ⟨_, rfl⟩
  rw [← hw4] at hS
  (try rw [← hw4])
  clear hw4
  obtain ⟨bx, hbx⟩ : ∃ b, b = w.heap.size + 1 + 1 := ⟨_, rfl⟩
  rw [← hbx] at hS
  (try rw [← hbx])
  clear hbx
  obtain ⟨qd, hqd⟩ : ∃ b, b = some (⟨w.heap.size + 1, 0, none⟩ : Addr) := ⟨_, rfl⟩
  rw [← hqd] at hS
  (try rw [← hqd])
  clear hqd
  go_cut [23] (fun s23 wx => s23 = .bool false ∧ wx = w4)
  case first =>
    rcases h0 with h0 | ⟨h0, h45⟩
    · have h1 : decide ((0 : Int) < (s.size : Int)) = false := decide_eq_false (by omega)
      have h2 : decide (0 < s.size) = false := decide_eq_false (by omega)
      clear h0
      go_wp2_with fail
      go_meet
      exact ⟨rfl, rfl⟩
    · have H9 := Lib.hid (show ((((s[0]'h0).toNat : Nat) : Int) == 45) = false from beq_eq_false_iff_ne.2 (by omega))
      clear h45
      go_wp2_with fail
      go_meet
      exact ⟨congrArg Value.bool H9.out, rfl⟩
  case rest =>
    obtain ⟨rfl, rfl⟩ := hcut
    clear h0
    obtain ⟨c0, c1, c2, c3, c4, c5, c6, c7, c8, c9⟩ := hS.cells
    go_upto_region 7 with fail
    clear c0 c1 c2 c3 c4 c5 c6 c7 c8 c9
    go_wp2_with fail
    have HL := Lib.hid (fun (i : Nat) (h : i < s.size) => show s.data.toList[i]? = some s[i] from Lib.data_getElem? s i h)
    go_loop [6, 7] (fun s6 s7 => ∃ (j : Nat) (y f : Int), j ≤ s.size ∧ s7 = .int .i64 y ∧ s6 = .int .i64 f ∧ y = (j : Int) - 1 ∧ f = (ffrom s.data.toList j : Nat)) (fun _ s7 => match s7 with | .int _ x => (x + 1).toNat | _ => 0)
    case atStart => exact ⟨s.size, _, _, Nat.le_refl _, rfl, rfl, rfl, by rw [← sz_len, ffrom_end]⟩
    case round =>
      obtain ⟨j, y, f, hj, rfl, rfl, hy, hf⟩ := hrel
      rcases Nat.eq_zero_or_pos j with hj0 | hj0
      · subst hj0
        have hy1 : y = -1 := by omega
        have hf1 : f = (sl : Int) := by rw [HSL.out]; exact hf
        subst hy1
        subst hf1
        clear hy hf hj
        obtain ⟨c0, c1, c2, c3, c4, c5, c6, c7, c8, c9⟩ := hS.cells
        have b1 : ¬ (sl : Int) < 0 := by omega
        have b2 : (0 : Int) ≤ (sl : Int) := by omega
        have b3 : (sl : Int) ≤ (s.size : Int) := by omega
        go_wp2_with fail
        refine (RN.out _).mono ?_
        rintro e w6 ⟨⟨a1, r1, rfl, n1⟩, hb6⟩
        replace hS := hS.step hb6
        clear hb6 c0 c1 c2 c3 c4 c5 c6 c7 c8 c9
        obtain ⟨c0, c1, c2, c3, c4, c5, c6, c7, c8, c9⟩ := hS.cells
        have hU := hS.set1 n1
        have hm1 : ∀ x, x = (digs R15 m).length → RpT w bx false (.slice a1 x r1) (.slice qd 1 1) m 1 (w6.setCell ⟨bx, 1, none⟩ (.slice a1 x r1)) := by rintro x rfl; exact hU
        obtain ⟨L1, hL1⟩ : ∃ x, x = (digs R15 m).length := ⟨_, rfl⟩
        replace hU := hm1 L1 hL1
        clear hm1 n1 hS
        (try rw [← hL1])
        clear hL1
        have b5 : (0 : Int) ≤ (sl : Int) + 1 := by omega
        have b6 : (sl : Int) + 1 ≤ (s.size : Int) := by omega
        go_wp2_with fail
        obtain ⟨w7, hw7⟩ : ∃ x, x = w6.setCell ⟨bx, 1, none⟩ (.slice a1 L1 r1) := ⟨_, rfl⟩
        rw [← hw7] at hU
        rw [← hw7]
        clear hw7 c0 c1 c2 c3 c4 c5 c6 c7 c8 c9
        refine (RD.out _).mono ?_
        rintro e w8 ⟨⟨a2, r2, rfl, n2⟩, hb8⟩
        replace hU := hU.step hb8
        clear hb8
        obtain ⟨c0, c1, c2, c3, c4, c5, c6, c7, c8, c9⟩ := hU.cells
        have hV := hU.set2 n2
        have hm2 : ∀ x, x = (digs R15 n).length → RpT w bx false (.slice a1 L1 r1) (.slice a2 x r2) m n (w8.setCell ⟨bx, 2, none⟩ (.slice a2 x r2)) := by rintro x rfl; exact hV
        have hpos : 0 < (digs R15 n).length := by rw [digs_pos R15 n R15_ge hn0]; simp
        obtain ⟨L2, hL2⟩ : ∃ x, x = (digs R15 n).length := ⟨_, rfl⟩
        rw [← hL2] at hpos
        replace hV := hm2 L2 hL2
        clear hm2 n2 hU
        (try rw [← hL2])
        clear hL2
        have b7 : ((L2 : Int) == 0) = false := beq_eq_false_iff_ne.2 (by omega)
        have b8 : ¬ (L2 : Int) = 0 := by omega
        go_wp2_with fail
        refine (LW.out _ _ ⟨_, _, rfl, hV.2.2.2.1, hV.2.2.2.2⟩).mono ?_
        rintro e w9 ⟨v9, rfl, hf9, hb9⟩
        replace hV := hV.step hb9
        clear hb9 c0 c1 c2 c3 c4 c5 c6 c7 c8 c9
        go_wp2_with fail
        refine (TX.out _ _ hf9).mono ?_
        rintro e w10 ⟨sx, rfl, hx, hb10⟩
        replace hV := hV.step hb10
        have hq : (sx.toList == s.toList) = true := by rw [toList_data, toList_data, hx]; rw [ht.out]; exact beq_self_eq_true _
        have HX := Lib.hid hx
        clear hb10 hf9 hx
        obtain ⟨c0, c1, c2, c3, c4, c5, c6, c7, c8, c9⟩ := hV.cells
        have hq2 : sx.toList = s.toList := beq_iff_eq.1 hq
        go_wp2_with fail
        refine (NR.out _ _ ⟨_, _, rfl, hV.2.2.2.1, hV.2.2.2.2⟩).mono ?_
        rintro e w11 ⟨he, hb11⟩
        obtain ⟨x1, x2, x3, hxx, he'⟩ := RatE_cases he
        subst he'
        have hI := hV.1.step hb11
        obtain ⟨k1, k2, k3, k4⟩ := hI.cells
        clear hb11
        go_wp2
        refine bodyPost_ret (v := .tuple #[.agg #[.int .i64 x1, .int .i64 x2], .int .i64 x3]) (by simp [results, Tryd.results7, go_sem, k1, k2]) rfl ⟨?_, (hI.1.setCell (by simp) _).setCell (by simp) _⟩
        rw [← hxx]
        rfl
      · obtain ⟨i, rfl⟩ : ∃ i, j = i + 1 := ⟨j - 1, by omega⟩
        have hi : i < s.size := by omega
        have hy1 : y = (i : Int) := by omega
        subst hy1
        have hlen : i < s.data.toList.length := by rw [sz_len]; exact hi
        have hli : s.data.toList[i] = s[i]'hi := by
          have := HL.out i hi
          rw [List.getElem?_eq_getElem hlen] at this
          exact Option.some.inj this
        by_cases h47 : (s[i]'hi).toNat = 47
        · have hh : (ffrom s.data.toList i : Nat) = i := ffrom_hit _ i hlen (by rw [hli]; exact UInt8.toNat_inj.1 h47)
          have HH := Lib.hid hh
          clear hh hli hlen hf hy
          go_wp2
          exact ⟨⟨i, _, _, by omega, rfl, rfl, by go_num, by rw [HH.out]⟩, (by first | (simp; done) | (simp; omega))⟩
        · have hh : ffrom s.data.toList i = ffrom s.data.toList (i + 1) := ffrom_miss _ i hlen (by rw [hli]; intro e; exact h47 (by rw [e]; rfl))
          have HH := Lib.hid hh
          obtain ⟨z, hz⟩ : ∃ z, (s[i]'hi).toNat = z := ⟨_, rfl⟩
          rw [hz] at h47
          have e1 : ((z : Int) == 47) = false := beq_eq_false_iff_ne.2 (by omega)
          have e2 : ¬ (z : Int) = 47 := by omega
          have HF := Lib.hid hf
          clear hh hli hlen hf hy
          go_wp2
          exact ⟨⟨i, _, _, by omega, rfl, rfl, by go_num, by rw [HH.out]; exact HF.out⟩, (by first | (simp; done) | (simp; omega))⟩

set_option maxRecDepth 20000 in
set_option maxHeartbeats 2000000 in
theorem rparse_fnb (s : ByteArray) (w : World) (hs : s.size ≤ 40) (h0 : s.size = 0 ∨ ∃ h : 0 < s.size, (s[0]'h).toNat ≠ 45) (sl : Nat) (HSL : Hid (sl = ffrom s.data.toList 0)) (_hfr : 0 ≤ sl) (hsz : sl ≤ s.size) (hslt : sl = s.size) (m n : Nat) (RN : Hid (ReadC (s.extract 0 sl) m)) (hn1 : n = 1) (hn0 : 0 < n) (x : Bool) (p q : Nat) (t : List UInt8) (LW : Hid (LowC false m n x p q)) (TX : Hid (TexC x p q t)) (ht : Hid (t ≠ s.data.toList)) :
    Calls Tryd.prog 7 #[.string s] w fun e w' => e = RatE (0, 0, 3) ∧ Below w.heap.size w w' := by
  have hs2 : (s.size : Int) ≤ 40 := by omega
  have hS := RpT.start w
  have b4 : ¬ (sl : Int) < (s.size : Int) := by omega
  clear hslt
  go_enter Tryd.func7, Tryd.ntmps7
  go_upto_region 5 with fail
  obtain ⟨w4, hw4⟩ : ∃ x, x = ((w.alloc (Obj.cells #[.int .i64 0, .int .i64 0] 23)).alloc (Obj.cells #[.int .i64 1] 3)).alloc (Obj.cells #[.bool false, .slice none 0 0, .slice (some ⟨w.heap.size + 1, 0, none⟩) 1 1] 54) := ⟨_, rfl⟩
  rw [← hw4] at hS
  (try rw [← hw4])
  clear hw4
  obtain ⟨bx, hbx⟩ : ∃ b, b = w.heap.size + 1 + 1 := ⟨_, rfl⟩
  rw [← hbx] at hS
  (try rw [← hbx])
  clear hbx
  obtain ⟨qd, hqd⟩ : ∃ b, b = some (⟨w.heap.size + 1, 0, none⟩ : Addr) := ⟨_, rfl⟩
  rw [← hqd] at hS
  (try rw [← hqd])
  clear hqd
  go_cut [23] (fun s23 wx => s23 = .bool false ∧ wx = w4)
  case first =>
    rcases h0 with h0 | ⟨h0, h45⟩
    · have h1 : decide ((0 : Int) < (s.size : Int)) = false := decide_eq_false (by omega)
      have h2 : decide (0 < s.size) = false := decide_eq_false (by omega)
      clear h0
      go_wp2_with fail
      go_meet
      exact ⟨rfl, rfl⟩
    · have H9 := Lib.hid (show ((((s[0]'h0).toNat : Nat) : Int) == 45) = false from beq_eq_false_iff_ne.2 (by omega))
      clear h45
      go_wp2_with fail
      go_meet
      exact ⟨congrArg Value.bool H9.out, rfl⟩
  case rest =>
    obtain ⟨rfl, rfl⟩ := hcut
    clear h0
    obtain ⟨c0, c1, c2, c3, c4, c5, c6, c7, c8, c9⟩ := hS.cells
    go_upto_region 7 with fail
    clear c0 c1 c2 c3 c4 c5 c6 c7 c8 c9
    go_wp2_with fail
    have HL := Lib.hid (fun (i : Nat) (h : i < s.size) => show s.data.toList[i]? = some s[i] from Lib.data_getElem? s i h)
    go_loop [6, 7] (fun s6 s7 => ∃ (j : Nat) (y f : Int), j ≤ s.size ∧ s7 = .int .i64 y ∧ s6 = .int .i64 f ∧ y = (j : Int) - 1 ∧ f = (ffrom s.data.toList j : Nat)) (fun _ s7 => match s7 with | .int _ x => (x + 1).toNat | _ => 0)
    case atStart => exact ⟨s.size, _, _, Nat.le_refl _, rfl, rfl, rfl, by rw [← sz_len, ffrom_end]⟩
    case round =>
      obtain ⟨j, y, f, hj, rfl, rfl, hy, hf⟩ := hrel
      rcases Nat.eq_zero_or_pos j with hj0 | hj0
      · subst hj0
        have hy1 : y = -1 := by omega
        have hf1 : f = (sl : Int) := by rw [HSL.out]; exact hf
        subst hy1
        subst hf1
        clear hy hf hj
        obtain ⟨c0, c1, c2, c3, c4, c5, c6, c7, c8, c9⟩ := hS.cells
        have b1 : ¬ (sl : Int) < 0 := by omega
        have b2 : (0 : Int) ≤ (sl : Int) := by omega
        have b3 : (sl : Int) ≤ (s.size : Int) := by omega
        go_wp2_with fail
        refine (RN.out _).mono ?_
        rintro e w6 ⟨⟨a1, r1, rfl, n1⟩, hb6⟩
        replace hS := hS.step hb6
        clear hb6 c0 c1 c2 c3 c4 c5 c6 c7 c8 c9
        obtain ⟨c0, c1, c2, c3, c4, c5, c6, c7, c8, c9⟩ := hS.cells
        have hU := hS.set1 n1
        have hm1 : ∀ x, x = (digs R15 m).length → RpT w bx false (.slice a1 x r1) (.slice qd 1 1) m 1 (w6.setCell ⟨bx, 1, none⟩ (.slice a1 x r1)) := by rintro x rfl; exact hU
        obtain ⟨L1, hL1⟩ : ∃ x, x = (digs R15 m).length := ⟨_, rfl⟩
        replace hU := hm1 L1 hL1
        clear hm1 n1 hS
        (try rw [← hL1])
        clear hL1
        subst hn1
        have hV := hU
        clear hU
        go_wp2_with fail
        refine (LW.out _ _ ⟨_, _, rfl, hV.2.2.2.1, hV.2.2.2.2⟩).mono ?_
        rintro e w9 ⟨v9, rfl, hf9, hb9⟩
        replace hV := hV.step hb9
        clear hb9 c0 c1 c2 c3 c4 c5 c6 c7 c8 c9
        go_wp2_with fail
        refine (TX.out _ _ hf9).mono ?_
        rintro e w10 ⟨sx, rfl, hx, hb10⟩
        replace hV := hV.step hb10
        have hq : (sx.toList == s.toList) = false := by rw [toList_data, toList_data, hx]; exact beq_eq_false_iff_ne.2 ht.out
        have HX := Lib.hid hx
        clear hb10 hf9 hx
        obtain ⟨c0, c1, c2, c3, c4, c5, c6, c7, c8, c9⟩ := hV.cells
        have hq2 : ¬ sx.toList = s.toList := beq_eq_false_iff_ne.1 hq
        go_wp2
        refine bodyPost_ret (v := .tuple #[.agg #[.int .i64 0, .int .i64 0], .int .i64 3]) (by simp [results, Tryd.results7, go_sem, c6, c7]) rfl ⟨rfl, (((hV.fin).setCell (by simp) _).setCell (by simp) _)⟩
      · obtain ⟨i, rfl⟩ : ∃ i, j = i + 1 := ⟨j - 1, by omega⟩
        have hi : i < s.size := by omega
        have hy1 : y = (i : Int) := by omega
        subst hy1
        have hlen : i < s.data.toList.length := by rw [sz_len]; exact hi
        have hli : s.data.toList[i] = s[i]'hi := by
          have := HL.out i hi
          rw [List.getElem?_eq_getElem hlen] at this
          exact Option.some.inj this
        by_cases h47 : (s[i]'hi).toNat = 47
        · have hh : (ffrom s.data.toList i : Nat) = i := ffrom_hit _ i hlen (by rw [hli]; exact UInt8.toNat_inj.1 h47)
          have HH := Lib.hid hh
          clear hh hli hlen hf hy
          go_wp2
          exact ⟨⟨i, _, _, by omega, rfl, rfl, by go_num, by rw [HH.out]⟩, (by first | (simp; done) | (simp; omega))⟩
        · have hh : ffrom s.data.toList i = ffrom s.data.toList (i + 1) := ffrom_miss _ i hlen (by rw [hli]; intro e; exact h47 (by rw [e]; rfl))
          have HH := Lib.hid hh
          obtain ⟨z, hz⟩ : ∃ z, (s[i]'hi).toNat = z := ⟨_, rfl⟩
          rw [hz] at h47
          have e1 : ((z : Int) == 47) = false := beq_eq_false_iff_ne.2 (by omega)
          have e2 : ¬ (z : Int) = 47 := by omega
          have HF := Lib.hid hf
          clear hh hli hlen hf hy
          go_wp2
          exact ⟨⟨i, _, _, by omega, rfl, rfl, by go_num, by rw [HH.out]; exact HF.out⟩, (by first | (simp; done) | (simp; omega))⟩

set_option maxRecDepth 20000 in
set_option maxHeartbeats 2000000 in
theorem rparse_fng (s : ByteArray) (w : World) (hs : s.size ≤ 40) (h0 : s.size = 0 ∨ ∃ h : 0 < s.size, (s[0]'h).toNat ≠ 45) (sl : Nat) (HSL : Hid (sl = ffrom s.data.toList 0)) (_hfr : 0 ≤ sl) (hsz : sl ≤ s.size) (hslt : sl = s.size) (m n : Nat) (RN : Hid (ReadC (s.extract 0 sl) m)) (hn1 : n = 1) (hn0 : 0 < n) (x : Bool) (p q : Nat) (t : List UInt8) (LW : Hid (LowC false m n x p q)) (TX : Hid (TexC x p q t)) (ht : Hid (t = s.data.toList)) (NR : Hid (NarC false m n)) :
    Calls Tryd.prog 7 #[.string s] w fun e w' => e = RatE (ratioS false m n) ∧ Below w.heap.size w w' := by
  have hs2 : (s.size : Int) ≤ 40 := by omega
  have hS := RpT.start w
  have b4 : ¬ (sl : Int) < (s.size : Int) := by omega
  clear hslt
  go_enter Tryd.func7, Tryd.ntmps7
  go_upto_region 5 with fail
  obtain ⟨w4, hw4⟩ : ∃ x, x = ((w.alloc (Obj.cells #[.int .i64 0, .int .i64 0] 23)).alloc (Obj.cells #[.int .i64 1] 3)).alloc (Obj.cells #[.bool false, .slice none 0 0, .slice (some ⟨w.heap.size + 1, 0, none⟩) 1 1] 54) := ⟨_, rfl⟩
  rw [← hw4] at hS
  (try rw [← hw4])
  clear hw4
  obtain ⟨bx, hbx⟩ : ∃ b, b = w.heap.size + 1 + 1 := ⟨_, rfl⟩
  rw [← hbx] at hS
  (try rw [← hbx])
  clear hbx
  obtain ⟨qd, hqd⟩ : ∃ b, b = some (⟨w.heap.size + 1, 0, none⟩ : Addr) := ⟨_, rfl⟩
  rw [← hqd] at hS
  (try rw [← hqd])
  clear hqd
  go_cut [23] (fun s23 wx => s23 = .bool false ∧ wx = w4)
  case first =>
    rcases h0 with h0 | ⟨h0, h45⟩
    · have h1 : decide ((0 : Int) < (s.size : Int)) = false := decide_eq_false (by omega)
      have h2 : decide (0 < s.size) = false := decide_eq_false (by omega)
      clear h0
      go_wp2_with fail
      go_meet
      exact ⟨rfl, rfl⟩
    · have H9 := Lib.hid (show ((((s[0]'h0).toNat : Nat) : Int) == 45) = false from beq_eq_false_iff_ne.2 (by omega))
      clear h45
      go_wp2_with fail
      go_meet
      exact ⟨congrArg Value.bool H9.out, rfl⟩
  case rest =>
    obtain ⟨rfl, rfl⟩ := hcut
    clear h0
    obtain ⟨c0, c1, c2, c3, c4, c5, c6, c7, c8, c9⟩ := hS.cells
    go_upto_region 7 with fail
    clear c0 c1 c2 c3 c4 c5 c6 c7 c8 c9
    go_wp2_with fail
    have HL := Lib.hid (fun (i : Nat) (h : i < s.size) => show s.data.toList[i]? = some s[i] from Lib.data_getElem? s i h)
    go_loop [6, 7] (fun s6 s7 => ∃ (j : Nat) (y f : Int), j ≤ s.size ∧ s7 = .int .i64 y ∧ s6 = .int .i64 f ∧ y = (j : Int) - 1 ∧ f = (ffrom s.data.toList j : Nat)) (fun _ s7 => match s7 with | .int _ x => (x + 1).toNat | _ => 0)
    case atStart => exact ⟨s.size, _, _, Nat.le_refl _, rfl, rfl, rfl, by rw [← sz_len, ffrom_end]⟩
    case round =>
      obtain ⟨j, y, f, hj, rfl, rfl, hy, hf⟩ := hrel
      rcases Nat.eq_zero_or_pos j with hj0 | hj0
      · subst hj0
        have hy1 : y = -1 := by omega
        have hf1 : f = (sl : Int) := by rw [HSL.out]; exact hf
        subst hy1
        subst hf1
        clear hy hf hj
        obtain ⟨c0, c1, c2, c3, c4, c5, c6, c7, c8, c9⟩ := hS.cells
        have b1 : ¬ (sl : Int) < 0 := by omega
        have b2 : (0 : Int) ≤ (sl : Int) := by omega
        have b3 : (sl : Int) ≤ (s.size : Int) := by omega
        go_wp2_with fail
        refine (RN.out _).mono ?_
        rintro e w6 ⟨⟨a1, r1, rfl, n1⟩, hb6⟩
        replace hS := hS.step hb6
        clear hb6 c0 c1 c2 c3 c4 c5 c6 c7 c8 c9
        obtain ⟨c0, c1, c2, c3, c4, c5, c6, c7, c8, c9⟩ := hS.cells
        have hU := hS.set1 n1
        have hm1 : ∀ x, x = (digs R15 m).length → RpT w bx false (.slice a1 x r1) (.slice qd 1 1) m 1 (w6.setCell ⟨bx, 1, none⟩ (.slice a1 x r1)) := by rintro x rfl; exact hU
        obtain ⟨L1, hL1⟩ : ∃ x, x = (digs R15 m).length := ⟨_, rfl⟩
        replace hU := hm1 L1 hL1
        clear hm1 n1 hS
        (try rw [← hL1])
        clear hL1
        subst hn1
        have hV := hU
        clear hU
        go_wp2_with fail
        refine (LW.out _ _ ⟨_, _, rfl, hV.2.2.2.1, hV.2.2.2.2⟩).mono ?_
        rintro e w9 ⟨v9, rfl, hf9, hb9⟩
        replace hV := hV.step hb9
        clear hb9 c0 c1 c2 c3 c4 c5 c6 c7 c8 c9
        go_wp2_with fail
        refine (TX.out _ _ hf9).mono ?_
        rintro e w10 ⟨sx, rfl, hx, hb10⟩
        replace hV := hV.step hb10
        have hq : (sx.toList == s.toList) = true := by rw [toList_data, toList_data, hx]; rw [ht.out]; exact beq_self_eq_true _
        have HX := Lib.hid hx
        clear hb10 hf9 hx
        obtain ⟨c0, c1, c2, c3, c4, c5, c6, c7, c8, c9⟩ := hV.cells
        have hq2 : sx.toList = s.toList := beq_iff_eq.1 hq
        go_wp2_with fail
        refine (NR.out _ _ ⟨_, _, rfl, hV.2.2.2.1, hV.2.2.2.2⟩).mono ?_
        rintro e w11 ⟨he, hb11⟩
        obtain ⟨x1, x2, x3, hxx, he'⟩ := RatE_cases he
        subst he'
        have hI := hV.1.step hb11
        obtain ⟨k1, k2, k3, k4⟩ := hI.cells
        clear hb11
        go_wp2
        refine bodyPost_ret (v := .tuple #[.agg #[.int .i64 x1, .int .i64 x2], .int .i64 x3]) (by simp [results, Tryd.results7, go_sem, k1, k2]) rfl ⟨?_, (hI.1.setCell (by simp) _).setCell (by simp) _⟩
        rw [← hxx]
        rfl
      · obtain ⟨i, rfl⟩ : ∃ i, j = i + 1 := ⟨j - 1, by omega⟩
        have hi : i < s.size := by omega
        have hy1 : y = (i : Int) := by omega
        subst hy1
        have hlen : i < s.data.toList.length := by rw [sz_len]; exact hi
        have hli : s.data.toList[i] = s[i]'hi := by
          have := HL.out i hi
          rw [List.getElem?_eq_getElem hlen] at this
          exact Option.some.inj this
        by_cases h47 : (s[i]'hi).toNat = 47
        · have hh : (ffrom s.data.toList i : Nat) = i := ffrom_hit _ i hlen (by rw [hli]; exact UInt8.toNat_inj.1 h47)
          have HH := Lib.hid hh
          clear hh hli hlen hf hy
          go_wp2
          exact ⟨⟨i, _, _, by omega, rfl, rfl, by go_num, by rw [HH.out]⟩, (by first | (simp; done) | (simp; omega))⟩
        · have hh : ffrom s.data.toList i = ffrom s.data.toList (i + 1) := ffrom_miss _ i hlen (by rw [hli]; intro e; exact h47 (by rw [e]; rfl))
          have HH := Lib.hid hh
          obtain ⟨z, hz⟩ : ∃ z, (s[i]'hi).toNat = z := ⟨_, rfl⟩
          rw [hz] at h47
          have e1 : ((z : Int) == 47) = false := beq_eq_false_iff_ne.2 (by omega)
          have e2 : ¬ (z : Int) = 47 := by omega
          have HF := Lib.hid hf
          clear hh hli hlen hf hy
          go_wp2
          exact ⟨⟨i, _, _, by omega, rfl, rfl, by go_num, by rw [HH.out]; exact HF.out⟩, (by first | (simp; done) | (simp; omega))⟩

end Go.Proofs.YtpjjbdpkhmeldaaDoor
