/- RatioTexts, the law -/
import Derived.Test.YtpjjbdpkhmeldaaDoorT9
namespace Go.Proofs.YtpjjbdpkhmeldaaDoor
open Go.RowKit

/-- the two ratios' boxes -/
def TwS (w : World) (n d : Int) (w' : World) : Prop := Below w.heap.size w w' ∧ Box w' w.heap.size 23 [.int .i64 n, .int .i64 d]
theorem ratioS_i64 (g : Bool) (m n : Nat) : I64 (ratioS g m n).1 ∧ I64 (ratioS g m n).2.1 := by
  unfold ratioS
  generalize m / Nat.gcd m n = a
  generalize n / Nat.gcd m n = b
  unfold P62
  split
  · rename_i h
    obtain ⟨h1, h2⟩ := h
    refine ⟨?_, ?_⟩
    · unfold I64
      cases g
      · show -9223372036854775808 ≤ (a : Int) ∧ (a : Int) ≤ 9223372036854775807
        omega
      · show -9223372036854775808 ≤ -(a : Int) ∧ -(a : Int) ≤ 9223372036854775807
        omega
    · show -9223372036854775808 ≤ (b : Int) ∧ (b : Int) ≤ 9223372036854775807
      omega
  · exact ⟨⟨by decide, by decide⟩, ⟨by decide, by decide⟩⟩
theorem parseS_i64 (l : List UInt8) : I64 (parseS l).1 ∧ I64 (parseS l).2.1 := by
  unfold parseS
  split
  · exact ratioS_i64 _ _ _
  · exact ⟨⟨by decide, by decide⟩, ⟨by decide, by decide⟩⟩

theorem ba_eq {a b : ByteArray} (h : a.data.toList = b.data.toList) : a = b := by
  apply ByteArray.ext
  exact Array.toList_inj.1 h

set_option maxRecDepth 20000 in
set_option maxHeartbeats 4000000 in
theorem texts_any (n d : Int) (s : ByteArray) (w : World) (hn : I64 n) (hd : I64 d) (hE : Env w) :
    Calls Tryd.prog 3 #[.agg #[.int .i64 n, .int .i64 d], .string s] w fun e w' => e = .returned (.bool true) ∧ Below w.heap.size w w' := by
  have CA := Lib.hid (fun wx => awake_any wx)
  have hS := ShS.start w n d
  obtain ⟨ta, hta⟩ : ∃ x : ByteArray, x = bsOf (showS n d) := ⟨_, rfl⟩
  have SH : Hid (∀ wx, Env wx → Calls Tryd.prog 5 #[.agg #[.int .i64 n, .int .i64 d]] wx fun e w' => e = .returned (.string ta) ∧ Below wx.heap.size wx w') := Lib.hid (fun wx hx => by
    refine (show_any n d wx hn hd hx).mono ?_
    rintro e w' ⟨s1, rfl, h1, h2⟩
    exact ⟨by rw [ba_eq (show s1.data.toList = ta.data.toList from by rw [h1, hta]; rfl)], h2⟩)
  have RS : Hid (∀ wx, Calls Tryd.prog 8 #[.agg #[.int .i64 n, .int .i64 d]] wx fun e w' => e = .returned (.string ta) ∧ Below wx.heap.size wx w') := Lib.hid (fun wx => by
    refine (rshow_any n d wx hn hd).mono ?_
    rintro e w' ⟨s1, rfl, h1, h2⟩
    exact ⟨by rw [ba_eq (show s1.data.toList = ta.data.toList from by rw [h1, hta]; rfl)], h2⟩)
  obtain ⟨y1, y2, y3, hy⟩ : ∃ y1 y2 y3, parseS (showS n d) = (y1, y2, y3) := ⟨_, _, _, rfl⟩
  obtain ⟨z1, z2, z3, hz⟩ : ∃ z1 z2 z3, parseS s.data.toList = (z1, z2, z3) := ⟨_, _, _, rfl⟩
  have PA : Hid (∀ wx, Env wx → Calls Tryd.prog 6 #[.string ta] wx fun e w' => e = .returned (.tuple #[.agg #[.int .i64 y1, .int .i64 y2], .int .i64 y3]) ∧ Below wx.heap.size wx w') := Lib.hid (fun wx hx => by
    refine (parse_any ta wx hx).mono ?_
    rintro e w' ⟨rfl, h2⟩
    rw [hta, bsOf_list, hy]
    exact ⟨rfl, h2⟩)
  have PS : Hid (∀ wx, Env wx → Calls Tryd.prog 6 #[.string s] wx fun e w' => e = .returned (.tuple #[.agg #[.int .i64 z1, .int .i64 z2], .int .i64 z3]) ∧ Below wx.heap.size wx w') := Lib.hid (fun wx hx => by
    refine (parse_any s wx hx).mono ?_
    rintro e w' ⟨rfl, h2⟩
    rw [hz]
    exact ⟨rfl, h2⟩)
  have RP : Hid (∀ wx, Calls Tryd.prog 7 #[.string s] wx fun e w' => e = .returned (.tuple #[.agg #[.int .i64 z1, .int .i64 z2], .int .i64 z3]) ∧ Below wx.heap.size wx w') := Lib.hid (fun wx => by
    refine (rparse_any s wx).mono ?_
    rintro e w' ⟨rfl, h2⟩
    rw [hz]
    exact ⟨rfl, h2⟩)
  have hi := parseS_i64 s.data.toList
  rw [hz] at hi
  obtain ⟨hi1, hi2⟩ := hi
  have SZ : Hid (z3 = 0 → ∀ wx, Env wx → Calls Tryd.prog 5 #[.agg #[.int .i64 z1, .int .i64 z2]] wx fun e w' => e = .returned (.string s) ∧ Below wx.heap.size wx w') := Lib.hid (fun h0 wx hx => by
    refine (show_any z1 z2 wx hi1 hi2 hx).mono ?_
    rintro e w' ⟨s1, rfl, h1, h2⟩
    refine ⟨?_, h2⟩
    rw [ba_eq (show s1.data.toList = s.data.toList from by rw [h1]; exact show_parse _ _ _ (by rw [hz, h0]))])
  obtain ⟨vb, hvb⟩ : ∃ b, validB n d = b := ⟨_, rfl⟩
  have RV : Hid (∀ wx, Calls Tryd.prog 9 #[.agg #[.int .i64 n, .int .i64 d]] wx fun e w' => e = .returned (.bool vb) ∧ Below wx.heap.size wx w') := Lib.hid (fun wx => rvalid_any n d vb hvb wx hn hd)
  have HV : Hid (vb = true → y1 = n ∧ y2 = d ∧ y3 = 0) := Lib.hid (fun h => by
    have := parse_show n d (by rw [hvb]; exact h)
    rw [hy] at this
    exact ⟨congrArg Prod.fst this, congrArg (fun x => x.2.1) this, congrArg (fun x => x.2.2) this⟩)
  clear hta hy hz hvb
  have hq : (ta.toList == ta.toList) = true := beq_self_eq_true _
  by_cases h60 : 60 < s.size
  · go_enter Tryd.func3, Tryd.ntmps3
    go_wp2_with fail
    refine (CA.out _).mono ?_
    rintro e w1 ⟨rfl, hb⟩
    replace hS := hS.step hb
    clear hb
    have h1 : (60 : Int) < (s.size : Int) := by omega
    go_wp2
    go_ret
    exact ⟨rfl, hS.1⟩
  have h61 : (s.size : Int) ≤ 60 := by omega
  go_enter Tryd.func3, Tryd.ntmps3
  go_wp2_with fail
  refine (CA.out _).mono ?_
  rintro e w1 ⟨rfl, hb⟩
  replace hS := hS.step hb
  clear hb
  obtain ⟨_, k0, k1⟩ := hS.all
  go_wp2_with fail
  clear k0 k1
  refine (SH.out _ (hE.below hS.1)).mono ?_
  rintro e w2 ⟨rfl, hb⟩
  replace hS := hS.step hb
  clear hb
  go_wp2_with fail
  refine (PA.out _ (hE.below hS.1)).mono ?_
  rintro e w3 ⟨rfl, hb⟩
  replace hS := hS.step hb
  clear hb
  have hlt1 := hS.2.lt
  have B1 := Box.made w3 23 [.int .i64 y1, .int .i64 y2]
  have hS1 := hS.step ((Below.refl w3.heap.size w3).alloc (Nat.le_refl _) (Obj.cells #[.int .i64 y1, .int .i64 y2] 23))
  obtain ⟨b1, hb1⟩ : ∃ b, b = w3.heap.size := ⟨_, rfl⟩
  go_wp2_with fail
  obtain ⟨wA, hwA⟩ : ∃ x, x = w3.alloc (Obj.cells #[.int .i64 y1, .int .i64 y2] 23) := ⟨_, rfl⟩
  have B1' : Box wA b1 23 [.int .i64 y1, .int .i64 y2] := by rw [hwA, hb1]; exact B1
  rw [← hwA] at hS1
  (try rw [← hwA])
  (try rw [← hb1])
  clear hwA hb1 B1 hS hlt1
  refine (PS.out _ (hE.below hS1.1)).mono ?_
  rintro e w4 ⟨rfl, hb⟩
  replace hS1 := hS1.step hb
  replace B1' := B1'.below hb
  clear hb
  have B2 := Box.made w4 23 [.int .i64 z1, .int .i64 z2]
  have hbel := (Below.refl w4.heap.size w4).alloc (Nat.le_refl _) (Obj.cells #[.int .i64 z1, .int .i64 z2] 23)
  have hS2 := hS1.step hbel
  have B1s := B1'.below hbel
  clear hbel
  obtain ⟨b2, hb2⟩ : ∃ b, b = w4.heap.size := ⟨_, rfl⟩
  go_wp2_with fail
  obtain ⟨wB, hwB⟩ : ∃ x, x = w4.alloc (Obj.cells #[.int .i64 z1, .int .i64 z2] 23) := ⟨_, rfl⟩
  have B2' : Box wB b2 23 [.int .i64 z1, .int .i64 z2] := by rw [hwB, hb2]; exact B2
  rw [← hwB] at hS2 B1s
  (try rw [← hwB])
  (try rw [← hb2])
  clear hwB hb2 B2 hS1 B1'
  refine (RP.out _).mono ?_
  rintro e w5 ⟨rfl, hb⟩
  replace hS2 := hS2.step hb
  replace B1s := B1s.below hb
  replace B2' := B2'.below hb
  clear hb
  have B3 := Box.made w5 23 [.int .i64 z1, .int .i64 z2]
  have hbel := (Below.refl w5.heap.size w5).alloc (Nat.le_refl _) (Obj.cells #[.int .i64 z1, .int .i64 z2] 23)
  have hS3 := hS2.step hbel
  have B1t := B1s.below hbel
  have B2t := B2'.below hbel
  clear hbel
  obtain ⟨b3, hb3⟩ : ∃ b, b = w5.heap.size := ⟨_, rfl⟩
  go_upto_region 9 with fail
  obtain ⟨wC, hwC⟩ : ∃ x, x = w5.alloc (Obj.cells #[.int .i64 z1, .int .i64 z2] 23) := ⟨_, rfl⟩
  have B3' : Box wC b3 23 [.int .i64 z1, .int .i64 z2] := by rw [hwC, hb3]; exact B3
  rw [← hwC] at hS3 B1t B2t
  (try rw [← hwC])
  (try rw [← hb3])
  clear hwC hb3 B3 hS2 B1s B2'
  obtain ⟨_, k0, k1⟩ := hS3.all
  go_wp2_with fail
  clear k0 k1
  refine (RS.out _).mono ?_
  rintro e w6 ⟨rfl, hb⟩
  replace hS3 := hS3.step hb
  replace B1t := B1t.below hb
  replace B2t := B2t.below hb
  replace B3' := B3'.below hb
  clear hb
  obtain ⟨_, k0, k1⟩ := hS3.all
  have c0 := B2t.cell 0 _ rfl
  have c1 := B2t.cell 1 _ rfl
  have d0 := B3'.cell 0 _ rfl
  have d1 := B3'.cell 1 _ rfl
  have a0 := B1t.cell 0 _ rfl
  have a1 := B1t.cell 1 _ rfl
  by_cases hz0 : z3 = 0
  · have SZ0 := Lib.hid (SZ.out hz0)
    subst hz0
    clear SZ
    go_wp2_with fail
    refine (SZ0.out _ (hE.below hS3.1)).mono ?_
    rintro e w7 ⟨rfl, hb⟩
    replace hS3 := hS3.step hb
    replace B1t := B1t.below hb
    clear hb k0 k1 c0 c1 d0 d1 a0 a1
    have k0 := hS3.2.cell 0 _ rfl
    have k1 := hS3.2.cell 1 _ rfl
    have a0 := B1t.cell 0 _ rfl
    have a1 := B1t.cell 1 _ rfl
    have hq2 : (s.toList == s.toList) = true := beq_self_eq_true _
    go_wp2_with fail
    clear k0 k1 a0 a1
    refine (RV.out _).mono ?_
    rintro e w8 ⟨rfl, hb⟩
    replace hS3 := hS3.step hb
    replace B1t := B1t.below hb
    clear hb
    have k0 := hS3.2.cell 0 _ rfl
    have k1 := hS3.2.cell 1 _ rfl
    have a0 := B1t.cell 0 _ rfl
    have a1 := B1t.cell 1 _ rfl
    cases vb with
    | false =>
      go_wp2
      go_ret
      exact ⟨rfl, hS3.1⟩
    | true =>
      obtain ⟨e1, e2, e3⟩ := HV.out rfl
      subst e1
      subst e2
      subst e3
      go_wp2
      go_ret
      exact ⟨rfl, hS3.1⟩
  · have hz1 : (z3 == 0) = false := beq_eq_false_iff_ne.2 hz0
    go_wp2_with fail
    clear k0 k1 c0 c1 d0 d1 a0 a1
    refine (RV.out _).mono ?_
    rintro e w8 ⟨rfl, hb⟩
    replace hS3 := hS3.step hb
    replace B1t := B1t.below hb
    clear hb
    have k0 := hS3.2.cell 0 _ rfl
    have k1 := hS3.2.cell 1 _ rfl
    have a0 := B1t.cell 0 _ rfl
    have a1 := B1t.cell 1 _ rfl
    cases vb with
    | false =>
      go_wp2
      go_ret
      exact ⟨rfl, hS3.1⟩
    | true =>
      obtain ⟨e1, e2, e3⟩ := HV.out rfl
      subst e1
      subst e2
      subst e3
      go_wp2
      go_ret
      exact ⟨rfl, hS3.1⟩

end Go.Proofs.YtpjjbdpkhmeldaaDoor
