/- contracts of the reference's Of, Neg, Sign, Floor, Ceil, Add, Sub -/
import Derived.Test.YtpjjbdpkhmeldaaR6
namespace Go.Proofs.Ytpjjbdpkhmeldaa
open Go.RowKit

theorem natAbs_lenR (n : Int) (h : I64 n) : (digs R15 n.natAbs).length ≤ 5 := digs_length_le R15 R15_ge _ 5 (by obtain ⟨h1, h2⟩ := h; unfold R15; omega)

theorem ratioS_low (g : Bool) (m n : Nat) (hn : 0 < n) : ratioS (lowS g m n).1 (lowS g m n).2.1 (lowS g m n).2.2 = ratioS g m n := by
  have g1 : 0 < Nat.gcd m n := Nat.gcd_pos_of_pos_right _ hn
  have c1 : Nat.gcd (m / Nat.gcd m n) (n / Nat.gcd m n) = 1 := Nat.coprime_div_gcd_div_gcd g1
  conv => rhs; rw [← outS_low]
  unfold lowS
  simp only []
  unfold ratioS outS
  rw [c1, Nat.div_one, Nat.div_one]

theorem rreduced_int (n d : Int) (w : World) (hd1 : 1 ≤ d) (hd2 : d ≤ 4611686018427387904) (hn1 : -4611686018427387904 ≤ n) (hn2 : n ≤ 4611686018427387904) :
    Calls Try.prog 45 #[.int .i64 n, .int .i64 d] w fun e w' => e = RatE (R n d) ∧ Below w.heap.size w w' := by
  obtain ⟨k, rfl⟩ : ∃ k : Nat, d = k := ⟨d.toNat, by omega⟩
  exact rreduced_any n k w (by omega) (by omega) hn1 hn2

theorem prod_bd (a b : Int) (h1 : -1073741824 ≤ a) (h2 : a ≤ 1073741824) (h3 : -1073741824 ≤ b) (h4 : b ≤ 1073741824) : -1152921504606846976 ≤ a * b ∧ a * b ≤ 1152921504606846976 := by
  have h : (a * b).natAbs ≤ 1073741824 * 1073741824 := by
    rw [Int.natAbs_mul]
    exact Nat.mul_le_mul (by omega) (by omega)
  omega

set_option maxHeartbeats 1000000 in
theorem rneg_any (n d : Int) (w : World) (hn : I64 n) (hd : I64 d) :
    Calls Try.prog 30 #[.agg #[.int .i64 n, .int .i64 d]] w fun e w' => e = .returned (.agg #[.int .i64 (negS n d).1, .int .i64 (negS n d).2]) ∧ Below w.heap.size w w' := by
  have hx := Box.made w 25 [.int .i64 n, .int .i64 d]
  have hr := Box.made (w.alloc (Obj.cells #[.int .i64 n, .int .i64 d] 25)) 25 [.int .i64 0, .int .i64 0]
  rw [alloc_size] at hr
  have hx' := hx.alloc (Obj.cells #[.int .i64 0, .int .i64 0] 25)
  have hbl : Below w.heap.size w ((w.alloc (Obj.cells #[.int .i64 n, .int .i64 d] 25)).alloc (Obj.cells #[.int .i64 0, .int .i64 0] 25)) := ((Below.refl _ _).alloc (Nat.le_refl _) _).alloc (by simp) _
  rcases Bool.eq_false_or_eq_true (validB n d) with hv | hv
  · obtain ⟨g1, g2, g3, g4, g5⟩ := validB_true hv
    have e1 : negS n d = (-n, d) := by unfold negS; rw [hv]; rfl
    have HE := Lib.hid e1; have HV := Lib.hid hv
    clear e1 hv g5
    go_enter Try.func30, Try.ntmps30
    go_wp2_with fail
    refine (rvalid_any n d true HV.out _ hn hd).mono ?_
    rintro e w1 ⟨rfl, hb⟩
    have hx1 := hx'.below hb
    have hr1 := hr.below hb
    have hbl1 := hbl.trans (hb.mono hbl.size)
    have k0 := hx1.cell 0 _ rfl; have k1 := hx1.cell 1 _ rfl; have k2 := hr1.cell 0 _ rfl; have k3 := hr1.cell 1 _ rfl; have k4 := hr1.free 0; have k5 := hr1.free 1
    clear hx hx' hr hbl hb
    go_wp2
    refine bodyPost_ret (v := .agg #[.int .i64 (-n), .int .i64 d]) (by simp [results, Try.results30, go_sem, k2, k3]) rfl ⟨by rw [HE.out], (hbl1.setCell (by simp) _).setCell (by simp) _⟩
  · have e1 : negS n d = (0, 0) := by unfold negS; rw [hv]; rfl
    have HE := Lib.hid e1; have HV := Lib.hid hv
    clear e1 hv
    go_enter Try.func30, Try.ntmps30
    go_wp2_with fail
    refine (rvalid_any n d false HV.out _ hn hd).mono ?_
    rintro e w1 ⟨rfl, hb⟩
    have hx1 := hx'.below hb
    have hr1 := hr.below hb
    have hbl1 := hbl.trans (hb.mono hbl.size)
    have k2 := hr1.cell 0 _ rfl; have k3 := hr1.cell 1 _ rfl; have k4 := hr1.free 0; have k5 := hr1.free 1
    clear hx hx' hr hbl hb
    go_wp2
    refine bodyPost_ret (v := .agg #[.int .i64 0, .int .i64 0]) (by simp [results, Try.results30, go_sem, k2, k3]) rfl ⟨by rw [HE.out], (hbl1.setCell (by simp) _).setCell (by simp) _⟩


set_option maxHeartbeats 1000000 in
theorem rsign_any (n d : Int) (w : World) (hn : I64 n) (hd : I64 d) :
    Calls Try.prog 33 #[.agg #[.int .i64 n, .int .i64 d]] w fun e w' => e = .returned (.int .i64 (signS n d)) ∧ Below w.heap.size w w' := by
  have hx := Box.made w 25 [.int .i64 n, .int .i64 d]
  have hbl : Below w.heap.size w (w.alloc (Obj.cells #[.int .i64 n, .int .i64 d] 25)) := (Below.refl _ _).alloc (Nat.le_refl _) _
  rcases Bool.eq_false_or_eq_true (validB n d) with hv | hv
  · have HV := Lib.hid hv
    have hS : signS n d = sgn n := by unfold signS; rw [hv]; rfl
    rw [hS]
    clear hv hS
    rcases Int.lt_trichotomy n 0 with h | h | h
    · have e1 : (n == 0) = false := by simp; omega
      have e2 : decide (n < 0) = true := by simpa using h
      rw [sgn_neg h]
      go_enter Try.func33, Try.ntmps33
      go_wp2_with fail
      refine (rvalid_any n d true HV.out _ hn hd).mono ?_
      rintro e w1 ⟨rfl, hb⟩
      have hx1 := hx.below hb
      have hbl1 := hbl.trans (hb.mono hbl.size)
      have k0 := hx1.cell 0 _ rfl; have k1 := hx1.cell 1 _ rfl
      clear hx hbl hb
      go_wp2
      go_ret
      exact ⟨rfl, hbl1⟩
    · subst h
      go_enter Try.func33, Try.ntmps33
      go_wp2_with fail
      refine (rvalid_any 0 d true HV.out _ hn hd).mono ?_
      rintro e w1 ⟨rfl, hb⟩
      have hx1 := hx.below hb
      have hbl1 := hbl.trans (hb.mono hbl.size)
      have k0 := hx1.cell 0 _ rfl; have k1 := hx1.cell 1 _ rfl
      clear hx hbl hb
      go_wp2
      go_ret
      exact ⟨rfl, hbl1⟩
    · have e1 : (n == 0) = false := by simp; omega
      have e2 : decide (n < 0) = false := by simp; omega
      rw [sgn_pos h]
      go_enter Try.func33, Try.ntmps33
      go_wp2_with fail
      refine (rvalid_any n d true HV.out _ hn hd).mono ?_
      rintro e w1 ⟨rfl, hb⟩
      have hx1 := hx.below hb
      have hbl1 := hbl.trans (hb.mono hbl.size)
      have k0 := hx1.cell 0 _ rfl; have k1 := hx1.cell 1 _ rfl
      clear hx hbl hb
      go_wp2
      go_ret
      exact ⟨rfl, hbl1⟩
  · have e1 : signS n d = 0 := by unfold signS; rw [hv]; rfl
    rw [e1]
    have HV := Lib.hid hv
    clear e1 hv
    go_enter Try.func33, Try.ntmps33
    go_wp2_with fail
    refine (rvalid_any n d false HV.out _ hn hd).mono ?_
    rintro e w1 ⟨rfl, hb⟩
    have hbl1 := hbl.trans (hb.mono hbl.size)
    clear hx hbl hb
    go_wp2
    go_ret
    exact ⟨rfl, hbl1⟩

theorem tmod_nonneg (n d : Int) (h : 0 ≤ n) : 0 ≤ n.tmod d := Int.tmod_nonneg d h
theorem tmod_nonpos (n d : Int) (h : n < 0) : n.tmod d ≤ 0 := by
  have e : n.tmod d = -((-n).tmod d) := by rw [Int.neg_tmod]; omega
  have := Int.tmod_nonneg d (show 0 ≤ -n by omega)
  omega

set_option maxHeartbeats 1000000 in
theorem rfloor_any (n d : Int) (w : World) (hn : I64 n) (hd : I64 d) :
    Calls Try.prog 34 #[.agg #[.int .i64 n, .int .i64 d]] w fun e w' => e = .returned (.int .i64 (floorS n d)) ∧ Below w.heap.size w w' := by
  have hx := Box.made w 25 [.int .i64 n, .int .i64 d]
  have hbl : Below w.heap.size w (w.alloc (Obj.cells #[.int .i64 n, .int .i64 d] 25)) := (Below.refl _ _).alloc (Nat.le_refl _) _
  rcases Bool.eq_false_or_eq_true (validB n d) with hv | hv
  · obtain ⟨g1, g2, g3, g4, g5⟩ := validB_true hv
    have hF : floorS n d = if n.tmod d < 0 then n.tdiv d - 1 else n.tdiv d := by unfold floorS; rw [hv]; rfl
    have HV := Lib.hid hv
    clear hv g5
    have hq := tdiv_bd n d g1 g3 g4
    have hz : (d == 0) = false := by simp; omega
    obtain ⟨hq1, hq2⟩ := hq
    have hw1 := IntWalk.i64_in (n.tdiv d) (by omega)
    have hm1 := tmod_nonneg n d
    have hm2 := tmod_nonpos n d
    rw [hF]
    clear hF
    have V := Lib.hid (fun wx => rvalid_any n d true HV.out wx hn hd)
    obtain ⟨q, hq⟩ : ∃ q, n.tdiv d = q := ⟨_, rfl⟩
    obtain ⟨r, hr⟩ : ∃ r, n.tmod d = r := ⟨_, rfl⟩
    rw [hq] at hq1 hq2 hw1
    rw [hr] at hm1 hm2
    rw [hq, hr]
    rcases Int.lt_or_le n 0 with h | h
    · have e2 : decide (n < 0) = true := by simpa using h
      have hm2 := hm2 h
      clear hm1
      by_cases ht : r < 0
      · have e3 : (r != 0) = true := by simp; omega
        rw [if_pos ht]
        clear ht
        go_enter Try.func34, Try.ntmps34
        go_wp2_with fail
        refine (V.out _).mono ?_
        rintro e w1 ⟨rfl, hb⟩
        have hx1 := hx.below hb
        have hbl1 := hbl.trans (hb.mono hbl.size)
        have k0 := hx1.cell 0 _ rfl; have k1 := hx1.cell 1 _ rfl
        clear hx hbl hb
        go_wp2
        go_ret
        exact ⟨rfl, hbl1⟩
      · have e3 : (r != 0) = false := by simp; omega
        rw [if_neg ht]
        clear ht
        go_enter Try.func34, Try.ntmps34
        go_wp2_with fail
        refine (V.out _).mono ?_
        rintro e w1 ⟨rfl, hb⟩
        have hx1 := hx.below hb
        have hbl1 := hbl.trans (hb.mono hbl.size)
        have k0 := hx1.cell 0 _ rfl; have k1 := hx1.cell 1 _ rfl
        clear hx hbl hb
        go_wp2
        go_ret
        exact ⟨rfl, hbl1⟩
    · have e2 : decide (n < 0) = false := by simpa using h
      have hm1 := hm1 h
      clear hm2
      rw [if_neg (by omega)]
      go_enter Try.func34, Try.ntmps34
      go_wp2_with fail
      refine (V.out _).mono ?_
      rintro e w1 ⟨rfl, hb⟩
      have hx1 := hx.below hb
      have hbl1 := hbl.trans (hb.mono hbl.size)
      have k0 := hx1.cell 0 _ rfl; have k1 := hx1.cell 1 _ rfl
      clear hx hbl hb
      go_wp2
      go_ret
      exact ⟨rfl, hbl1⟩
  · have e1 : floorS n d = 0 := by unfold floorS; rw [hv]; rfl
    have HE := Lib.hid e1; have HV := Lib.hid hv
    clear e1 hv
    go_enter Try.func34, Try.ntmps34
    go_wp2_with fail
    refine (rvalid_any n d false HV.out _ hn hd).mono ?_
    rintro e w1 ⟨rfl, hb⟩
    have hbl1 := hbl.trans (hb.mono hbl.size)
    clear hx hbl hb
    go_wp2
    go_ret
    exact ⟨congrArg (fun x => Ending.returned (Value.int .i64 x)) HE.out.symm, hbl1⟩

theorem validB_negE (n d : Int) : validB (-n) d = validB n d := by
  rcases Bool.eq_false_or_eq_true (validB n d) with h | h
  · rw [h]; exact validB_neg n d h
  · rw [h]
    rcases Bool.eq_false_or_eq_true (validB (-n) d) with h2 | h2
    · have := validB_neg (-n) d h2
      rw [Int.neg_neg, h] at this; cases this
    · exact h2

theorem negS_bd (n d : Int) (_hn : I64 n) (hd : I64 d) : I64 (negS n d).1 ∧ I64 (negS n d).2 := by
  unfold negS
  split
  · rename_i h
    obtain ⟨g1, g2, g3, g4, _⟩ := validB_true h
    exact ⟨⟨by simp only []; omega, by simp only []; omega⟩, hd⟩
  · exact ⟨⟨by simp only []; omega, by simp only []; omega⟩, ⟨by simp only []; omega, by simp only []; omega⟩⟩

theorem ceilS_eq (n d : Int) : ceilS n d = -floorS (negS n d).1 (negS n d).2 := by
  unfold ceilS negS floorS
  rcases Bool.eq_false_or_eq_true (validB n d) with h | h
  · rw [h]
    simp only [if_true]
    rw [validB_negE, h]
    simp only [if_true]
    rw [Int.neg_tmod, Int.neg_tdiv]
    by_cases h2 : 0 < n.tmod d
    · rw [if_pos h2, if_pos (by omega)]; omega
    · rw [if_neg h2, if_neg (by omega)]; omega
  · rw [h]
    rfl

theorem floorS_bd (n d : Int) : -4611686018427387905 ≤ floorS n d ∧ floorS n d ≤ 4611686018427387904 := by
  unfold floorS
  split
  · rename_i h
    obtain ⟨g1, g2, g3, g4, _⟩ := validB_true h
    have := tdiv_bd n d g1 g3 g4
    split <;> omega
  · omega

set_option maxHeartbeats 1000000 in
theorem rceil_any (n d : Int) (w : World) (hn : I64 n) (hd : I64 d) :
    Calls Try.prog 35 #[.agg #[.int .i64 n, .int .i64 d]] w fun e w' => e = .returned (.int .i64 (ceilS n d)) ∧ Below w.heap.size w w' := by
  have hx := Box.made w 25 [.int .i64 n, .int .i64 d]
  have hbl : Below w.heap.size w (w.alloc (Obj.cells #[.int .i64 n, .int .i64 d] 25)) := (Below.refl _ _).alloc (Nat.le_refl _) _
  have CN := Lib.hid (fun wx => rneg_any n d wx hn hd)
  obtain ⟨b1, b2⟩ := negS_bd n d hn hd
  have CF := Lib.hid (fun wx => rfloor_any _ _ wx b1 b2)
  obtain ⟨f1, f2⟩ := floorS_bd (negS n d).1 (negS n d).2
  rw [ceilS_eq]
  obtain ⟨f, hf⟩ : ∃ f, f = floorS (negS n d).1 (negS n d).2 := ⟨_, rfl⟩
  rw [← hf] at CF f1 f2
  rw [← hf]
  clear hf
  obtain ⟨p, hp⟩ : ∃ p, p = negS n d := ⟨_, rfl⟩
  rw [← hp] at CN CF
  clear hp b1 b2
  have k0 := hx.cell 0 _ rfl; have k1 := hx.cell 1 _ rfl
  go_enter Try.func35, Try.ntmps35
  go_wp2_with (first
    | (go_at_call 30; (with_reducible refine (CN.out _).mono ?_); rintro e w1 ⟨rfl, hb1⟩)
    | (go_at_call 34; (with_reducible refine (CF.out _).mono ?_); rintro e w2 ⟨rfl, hb2⟩))
  go_ret
  exact ⟨rfl, hbl.trans ((hb1.mono hbl.size).trans (hb2.mono (Nat.le_trans hbl.size hb1.size)))⟩

set_option maxHeartbeats 1000000 in
theorem rof_any (n d : Int) (w : World) (hn : I64 n) (hd : I64 d) :
    Calls Try.prog 27 #[.int .i64 n, .int .i64 d] w fun e w' => e = RatE (ofS n d) ∧ Below w.heap.size w w' := by
  have hx := Box.made w 25 [.int .i64 0, .int .i64 0]
  have hbl : Below w.heap.size w (w.alloc (Obj.cells #[.int .i64 0, .int .i64 0] 25)) := (Below.refl _ _).alloc (Nat.le_refl _) _
  have hl1 := natAbs_lenR n hn
  have hl2 := natAbs_lenR d hd
  by_cases h0 : d = 0
  · have e1 : ofS n d = (0, 0, 1) := if_pos h0
    have HE := Lib.hid e1
    clear e1
    subst h0
    go_enter Try.func27, Try.ntmps27
    go_wp2
    refine bodyPost_ret (v := .tuple #[.agg #[.int .i64 0, .int .i64 0], .int .i64 1]) (by simp [results, Try.results27, go_sem]) rfl ⟨by rw [HE.out]; rfl, ?_⟩
    exact (Below.refl _ _).alloc (Nat.le_refl _) _
  · have e1 : ofS n d = ratioS ((decide (n < 0)) != (decide (d < 0))) n.natAbs d.natAbs := if_neg h0
    have HE := Lib.hid e1
    have hz : (d == 0) = false := by simpa using h0
    have hp : 0 < d.natAbs := by omega
    clear e1
    go_enter Try.func27, Try.ntmps27
    go_wp2_with fail
    refine (rpart_any n _ hn).mono ?_
    rintro e w2 ⟨v2, rfl, hv2, hb2⟩
    obtain ⟨q2, d2, e2⟩ := hv2.shape
    subst e2
    go_wp2_with fail
    refine (rpart_any d _ hd).mono ?_
    rintro e w3 ⟨v3, rfl, hv3, hb3⟩
    obtain ⟨q3, d3, e3⟩ := hv3.shape
    subst e3
    have hv2' := hv2.below hb3
    have hb23 := hb2.trans (hb3.mono hb2.size)
    have hx3 := hx.below hb23
    have hbl3 := hbl.trans (hb23.mono hbl.size)
    have RT := Lib.hid (rnarrow_any (.agg #[.bool ((decide (n < 0)) != (decide (d < 0))), .slice q2 (digs R15 n.natAbs).length d2, .slice q3 (digs R15 d.natAbs).length d3]) ((decide (n < 0)) != (decide (d < 0))) n.natAbs d.natAbs w3 ⟨_, _, rfl, hv2', hv3⟩ (by omega) (by omega) hp)
    clear hx hbl hv2 hv3 hv2' hb2 hb3 hb23
    go_wp2_with fail
    refine RT.out.mono ?_
    rintro e w4 ⟨he, hb4⟩
    rw [← HE.out] at he
    obtain ⟨x, hx⟩ : ∃ x, x = ofS n d := ⟨_, rfl⟩
    rw [← hx] at he
    have HX := Lib.hid hx
    clear hx RT
    obtain ⟨x1, x2, x3⟩ := x
    unfold RatE at he
    subst he
    have hx4 := hx3.below hb4
    have hbl4 := hbl3.trans (hb4.mono hbl3.size)
    have k0 := hx4.cell 0 _ rfl; have k1 := hx4.cell 1 _ rfl; have k2 := hx4.free 0; have k3 := hx4.free 1
    clear hx3 hbl3 hb4
    go_wp2
    refine bodyPost_ret (v := .tuple #[.agg #[.int .i64 x1, .int .i64 x2], .int .i64 x3]) (by simp [results, Try.results27, go_sem, k0, k1]) rfl ⟨by rw [← HX.out]; rfl, (hbl4.setCell (by simp) _).setCell (by simp) _⟩

set_option maxHeartbeats 1000000 in
theorem raddS_ea (an ad bn bd : Int) (w : World) (han : I64 an) (had : I64 ad) (_hbn : I64 bn) (_hbd : I64 bd) (hva : Hid (validB an ad = false)) :
    Calls Try.prog 13 #[.agg #[.int .i64 an, .int .i64 ad], .agg #[.int .i64 bn, .int .i64 bd]] w fun e w' => e = RatE (0, 0, 1) ∧ Below w.heap.size w w' := by
  have hS := BiS.start w an ad bn bd
  go_enter Try.func13, Try.ntmps13
  go_wp2_with fail
  refine (rvalid_any an ad false hva.out _ han had).mono ?_
  rintro e wa ⟨rfl, hba⟩
  replace hS := hS.step hba
  clear hba

  obtain ⟨k1, k2, k3, k4, k5, k6, k7, k8⟩ := hS.cells
  have hbl := hS.1
  clear hS
  go_wp2
  refine bodyPost_ret (v := .tuple #[.agg #[.int .i64 0, .int .i64 0], .int .i64 1]) (by simp [results, Try.results13, go_sem, k5, k6]) rfl ⟨rfl, (hbl.setCell (by simp; omega) _).setCell (by simp; omega) _⟩

set_option maxHeartbeats 1000000 in
theorem raddS_eb (an ad bn bd : Int) (w : World) (han : I64 an) (had : I64 ad) (hbn : I64 bn) (hbd : I64 bd) (hva : Hid (validB an ad = true)) (hvb : Hid (validB bn bd = false)) :
    Calls Try.prog 13 #[.agg #[.int .i64 an, .int .i64 ad], .agg #[.int .i64 bn, .int .i64 bd]] w fun e w' => e = RatE (0, 0, 1) ∧ Below w.heap.size w w' := by
  have hS := BiS.start w an ad bn bd
  go_enter Try.func13, Try.ntmps13
  go_wp2_with fail
  refine (rvalid_any an ad true hva.out _ han had).mono ?_
  rintro e wa ⟨rfl, hba⟩
  replace hS := hS.step hba
  clear hba
  obtain ⟨k1, k2, k3, k4, k5, k6, k7, k8⟩ := hS.cells
  go_wp2_with fail
  clear k1 k2 k3 k4 k5 k6 k7 k8
  refine (rvalid_any bn bd false hvb.out _ hbn hbd).mono ?_
  rintro e wb ⟨rfl, hbb⟩
  replace hS := hS.step hbb
  clear hbb

  obtain ⟨k1, k2, k3, k4, k5, k6, k7, k8⟩ := hS.cells
  have hbl := hS.1
  clear hS
  go_wp2
  refine bodyPost_ret (v := .tuple #[.agg #[.int .i64 0, .int .i64 0], .int .i64 1]) (by simp [results, Try.results13, go_sem, k5, k6]) rfl ⟨rfl, (hbl.setCell (by simp; omega) _).setCell (by simp; omega) _⟩

set_option maxHeartbeats 2000000 in
theorem raddS_ok (an : Int) (ad : Nat) (bn : Int) (bd : Nat) (w : World) (han : I64 an) (had : I64 ad) (hbn : I64 bn) (hbd : I64 bd) (hva : Hid (validB an ad = true)) (hvb : Hid (validB bn bd = true)) (hsm : Hid (smallB an ad bn bd = false)) :
    Calls Try.prog 13 #[.agg #[.int .i64 an, .int .i64 ad], .agg #[.int .i64 bn, .int .i64 bd]] w fun e w' => e = RatE (addS an ad bn bd) ∧ Below w.heap.size w w' := by
  have hS := BiS.start w an ad bn bd
  have e1 : addS an ad bn bd = ratioS (plusS (decide (an < 0)) an.natAbs ad (decide (bn < 0)) bn.natAbs bd).1 (plusS (decide (an < 0)) an.natAbs ad (decide (bn < 0)) bn.natAbs bd).2.1 (plusS (decide (an < 0)) an.natAbs ad (decide (bn < 0)) bn.natAbs bd).2.2 := by
    unfold addS; rw [hva.out, hvb.out]; rfl
  have HE := Lib.hid e1
  obtain ⟨a1, a2, a3, a4, a5⟩ := validB_true hva.out
  obtain ⟨b1, b2, b3, b4, b5⟩ := validB_true hvb.out
  have hl1 := natAbs_lenR an han
  have hl2 := natAbs_lenR ad had
  rw [Int.natAbs_natCast] at hl2
  have hl3 := natAbs_lenR bn hbn
  have hl4 := natAbs_lenR bd hbd
  rw [Int.natAbs_natCast] at hl4
  obtain ⟨pl1, pl2⟩ := plusS_lenR (decide (an < 0)) an.natAbs ad (decide (bn < 0)) bn.natAbs bd 5 hl1 hl2 hl3 hl4
  have pd := plusS_den (decide (an < 0)) an.natAbs ad (decide (bn < 0)) bn.natAbs bd
  have hdp : 0 < (plusS (decide (an < 0)) an.natAbs ad (decide (bn < 0)) bn.natAbs bd).2.2 := by rw [pd]; exact Nat.mul_pos (by omega) (by omega)
  have ADD := Lib.hid (fun va vb wx h1 h2 => rplus_any va vb (decide (an < 0)) (decide (bn < 0)) an.natAbs ad bn.natAbs bd wx h1 h2 (by omega) (by omega) (by omega) (by omega) (by omega) (by omega))
  obtain ⟨p, hp⟩ : ∃ p, p = plusS (decide (an < 0)) an.natAbs ad (decide (bn < 0)) bn.natAbs bd := ⟨_, rfl⟩
  rw [← hp] at ADD HE pl1 pl2 hdp
  obtain ⟨p1, p2, p3⟩ := p
  simp only [] at ADD HE pl1 pl2 hdp
  have hlp : 0 < (lowS p1 p2 p3).2.2 := by
    show 0 < p3 / Nat.gcd p2 p3
    exact Nat.div_pos (Nat.gcd_le_right p2 hdp) (Nat.gcd_pos_of_pos_right _ hdp)
  have hq1 : (digs R15 (lowS p1 p2 p3).2.1).length ≤ 10000 := Nat.le_trans (digs_length_mono R15 R15_ge _ _ (Nat.div_le_self _ _)) (by omega)
  have hq2 : (digs R15 (lowS p1 p2 p3).2.2).length ≤ 10000 := Nat.le_trans (digs_length_mono R15 R15_ge _ _ (Nat.div_le_self _ _)) (by omega)
  have RAT := Lib.hid (fun v wx h => rnarrow_any v (lowS p1 p2 p3).1 (lowS p1 p2 p3).2.1 (lowS p1 p2 p3).2.2 wx h hq1 hq2 hlp)
  rw [ratioS_low p1 p2 p3 hdp] at RAT
  obtain ⟨lo, hlo⟩ : ∃ l, l = lowS p1 p2 p3 := ⟨_, rfl⟩
  rw [← hlo] at ADD RAT
  clear hlp hq1 hq2 hlo
  have CW1 := Lib.hid (fun wx => rwide_any an ad wx han had)
  have CW2 := Lib.hid (fun wx => rwide_any bn bd wx hbn hbd)
  rw [Int.natAbs_natCast] at CW1 CW2
  clear e1 a5 b5 pd hp hl1 hl2 hl3 hl4 pl1 pl2 hdp
  go_enter Try.func13, Try.ntmps13
  go_wp2_with fail
  refine (rvalid_any an ad true hva.out _ han had).mono ?_
  rintro e wa ⟨rfl, hba⟩
  replace hS := hS.step hba
  clear hba
  obtain ⟨k1, k2, k3, k4, k5, k6, k7, k8⟩ := hS.cells
  go_wp2_with fail
  clear k1 k2 k3 k4 k5 k6 k7 k8
  refine (rvalid_any bn bd true hvb.out _ hbn hbd).mono ?_
  rintro e wb ⟨rfl, hbb⟩
  replace hS := hS.step hbb
  clear hbb
  obtain ⟨k1, k2, k3, k4, k5, k6, k7, k8⟩ := hS.cells
  go_wp2_with fail
  clear k1 k2 k3 k4 k5 k6 k7 k8
  refine (rsmall_any an ad bn bd false hsm.out _).mono ?_
  rintro e wc ⟨rfl, hbc⟩
  replace hS := hS.step hbc
  clear hbc
  obtain ⟨k1, k2, k3, k4, k5, k6, k7, k8⟩ := hS.cells
  have hT := hS.drew.t
  have hS' := hS.drew
  go_wp2
  go_region_held3 (fun w' => BiT w an ad bn bd w' ∧ w'.cell? ⟨w.heap.size, 0, none⟩ = some (.int .i64 an) ∧ w'.cell? ⟨w.heap.size, 1, none⟩ = some (.int .i64 ad) ∧ w'.cell? ⟨w.heap.size + 1, 0, none⟩ = some (.int .i64 bn) ∧ w'.cell? ⟨w.heap.size + 1, 1, none⟩ = some (.int .i64 bd)) (first | exact BiT.all (by assumption) | exact BiT.all (((by assumption : BiT w an ad bn bd _).st _ _ (by omega) _).st _ _ (by omega) _))
    (first
      | (go_at_call 42; (with_reducible refine (CW1.out _).mono ?_); rintro e w1 ⟨v1, rfl, hv1, hb1⟩; have hS1 := hS'.step hb1; have hT1 := hS1.t)
      | (go_at_call 42; (with_reducible refine (CW2.out _).mono ?_); rintro e w2 ⟨v2, rfl, hv2, hb2⟩; have hS2 := hS1.step hb2; have hT2 := hS2.t; have hv1' := hv1.below hb2)
      | (go_at_call 41; (with_reducible refine (ADD.out _ _ _ hv1' hv2).mono ?_); rintro e w3 ⟨v3, rfl, hv3, hb3⟩; have hS3 := hS2.step hb3; have hT3 := hS3.t)
      | (go_at_call 43; (with_reducible refine (RAT.out _ _ hv3).mono ?_); rintro e w4 ⟨he, hb4⟩; have hS4 := hS3.step hb4; have hT4 := hS4.t; obtain ⟨x1, x2, x3, hx, he'⟩ := RatE_cases he; subst he'; have hcs := hS4.cells; obtain ⟨m1, m2, m3, m4, m5, m6, m7, m8⟩ := hcs))
  clear k1 k2 k3 k4 k5 k6 k7 k8
  go_wp2
  obtain ⟨m1, m2, m3, m4, m5, m6, m7, m8⟩ := hS4.cells
  refine bodyPost_ret (v := .tuple #[.agg #[.int .i64 x1, .int .i64 x2], .int .i64 x3]) (by simp [results, Try.results13, go_sem, m5, m6]) rfl ⟨?_, (hS4.1.setCell (by simp; omega) _).setCell (by simp; omega) _⟩
  rw [HE.out, ← hx]
  rfl


set_option maxHeartbeats 2000000 in
theorem raddS_sm (an ad bn bd : Int) (w : World) (han : I64 an) (had : I64 ad) (hbn : I64 bn) (hbd : I64 bd) (hva : Hid (validB an ad = true)) (hvb : Hid (validB bn bd = true)) (hsm : Hid (smallB an ad bn bd = true)) :
    Calls Try.prog 13 #[.agg #[.int .i64 an, .int .i64 ad], .agg #[.int .i64 bn, .int .i64 bd]] w fun e w' => e = RatE (addS an ad bn bd) ∧ Below w.heap.size w w' := by
  have hS := BiS.start w an ad bn bd
  rw [addS_R an ad bn bd hva.out hvb.out]
  obtain ⟨a1, a2, a3, a4, a5⟩ := validB_true hva.out
  obtain ⟨b1, b2, b3, b4, b5⟩ := validB_true hvb.out
  clear a5 b5
  have hs := hsm.out
  unfold smallB at hs
  obtain ⟨s1, s2, s3, s4, s5, s6⟩ := of_decide_eq_true hs
  clear hs
  obtain ⟨m1, m2⟩ := prod_bd an bd s5 s3 (by omega) s2
  obtain ⟨m3, m4⟩ := prod_bd bn ad s6 s4 (by omega) s1
  obtain ⟨m5, m6⟩ := prod_bd ad bd (by omega) s1 (by omega) s2
  have m7 : 0 < ad * bd := Int.mul_pos (by omega) (by omega)
  have CR := Lib.hid (fun wx => rreduced_int (an * bd + bn * ad) (ad * bd) wx (by omega) (by omega) (by omega) (by omega))
  have hi : I64 (an * bd + bn * ad) ∧ I64 (ad * bd) := ⟨⟨by omega, by omega⟩, ⟨by omega, by omega⟩⟩
  obtain ⟨x, hx⟩ : ∃ x, x = R (an * bd + bn * ad) (ad * bd) := ⟨_, rfl⟩
  rw [← hx] at CR
  rw [← hx]
  clear hx
  obtain ⟨x1, x2, x3⟩ := x
  unfold RatE at CR
  simp only [] at CR
  clear a1 a2 a3 a4 b1 b2 b3 b4
  go_enter Try.func13, Try.ntmps13
  go_wp2_with fail
  refine (rvalid_any an ad true hva.out _ han had).mono ?_
  rintro e wa ⟨rfl, hba⟩
  replace hS := hS.step hba
  clear hba
  obtain ⟨k1, k2, k3, k4, k5, k6, k7, k8⟩ := hS.cells
  go_wp2_with fail
  clear k1 k2 k3 k4 k5 k6 k7 k8
  refine (rvalid_any bn bd true hvb.out _ hbn hbd).mono ?_
  rintro e wb ⟨rfl, hbb⟩
  replace hS := hS.step hbb
  clear hbb
  obtain ⟨k1, k2, k3, k4, k5, k6, k7, k8⟩ := hS.cells
  go_wp2_with fail
  clear k1 k2 k3 k4 k5 k6 k7 k8
  refine (rsmall_any an ad bn bd true hsm.out _).mono ?_
  rintro e wc ⟨rfl, hbc⟩
  replace hS := hS.step hbc
  clear hbc
  obtain ⟨k1, k2, k3, k4, k5, k6, k7, k8⟩ := hS.cells
  go_wp2_with fail
  refine (CR.out _).mono ?_
  rintro e wd ⟨rfl, hbd2⟩
  clear k1 k2 k3 k4 k5 k6 k7 k8
  replace hS := hS.step hbd2
  obtain ⟨k1, k2, k3, k4, k5, k6, k7, k8⟩ := hS.cells
  go_wp2
  refine bodyPost_ret (v := .tuple #[.agg #[.int .i64 x1, .int .i64 x2], .int .i64 x3]) (by simp [results, Try.results13, go_sem, k5, k6]) rfl ⟨rfl, (hS.1.setCell (by simp; omega) _).setCell (by simp; omega) _⟩

theorem radd_ratio (an ad bn bd : Int) (w : World) (han : I64 an) (had : I64 ad) (hbn : I64 bn) (hbd : I64 bd) :
    Calls Try.prog 13 #[.agg #[.int .i64 an, .int .i64 ad], .agg #[.int .i64 bn, .int .i64 bd]] w fun e w' => e = RatE (addS an ad bn bd) ∧ Below w.heap.size w w' := by
  rcases Bool.eq_false_or_eq_true (validB an ad) with hva | hva
  · rcases Bool.eq_false_or_eq_true (validB bn bd) with hvb | hvb
    · rcases Bool.eq_false_or_eq_true (smallB an ad bn bd) with hsm | hsm
      · exact raddS_sm an ad bn bd w han had hbn hbd hva hvb hsm
      · obtain ⟨a1, _⟩ := validB_true hva
        obtain ⟨b1, _⟩ := validB_true hvb
        obtain ⟨x, rfl⟩ : ∃ x : Nat, ad = x := ⟨ad.toNat, by omega⟩
        obtain ⟨y, rfl⟩ : ∃ y : Nat, bd = y := ⟨bd.toNat, by omega⟩
        exact raddS_ok an x bn y w han had hbn hbd hva hvb hsm
    · have e : addS an ad bn bd = (0, 0, 1) := by unfold addS; rw [hva, hvb]; rfl
      rw [e]; exact raddS_eb an ad bn bd w han had hbn hbd hva hvb
  · have e : addS an ad bn bd = (0, 0, 1) := by unfold addS; rw [hva]; rfl
    rw [e]; exact raddS_ea an ad bn bd w han had hbn hbd hva

theorem subS_eq (an ad bn bd : Int) : subS an ad bn bd = addS an ad (negS bn bd).1 (negS bn bd).2 := by
  unfold subS
  rcases Bool.eq_false_or_eq_true (validB an ad) with hva | hva
  · rcases Bool.eq_false_or_eq_true (validB bn bd) with hvb | hvb
    · rw [hva, hvb]; rfl
    · have e : negS bn bd = (0, 0) := by unfold negS; rw [hvb]; rfl
      rw [e, hva, hvb]
      unfold addS
      rw [hva, show validB (0 : Int) (0 : Int) = false from by decide]
      rfl
  · unfold addS
    rw [hva]; rfl

set_option maxHeartbeats 2000000 in
theorem rsub_ratio (an ad bn bd : Int) (w : World) (han : I64 an) (had : I64 ad) (hbn : I64 bn) (hbd : I64 bd) :
    Calls Try.prog 15 #[.agg #[.int .i64 an, .int .i64 ad], .agg #[.int .i64 bn, .int .i64 bd]] w fun e w' => e = RatE (subS an ad bn bd) ∧ Below w.heap.size w w' := by
  have hS := BiS.start w an ad bn bd
  rw [subS_eq]
  have NEG := Lib.hid (fun wx => rneg_any bn bd wx hbn hbd)
  obtain ⟨i1, i2⟩ := negS_bd bn bd hbn hbd
  have ADD := Lib.hid (fun wx => radd_ratio an ad _ _ wx han had i1 i2)
  obtain ⟨p, hp⟩ : ∃ p, p = negS bn bd := ⟨_, rfl⟩
  rw [← hp] at NEG ADD
  rw [← hp]
  clear hp i1 i2
  obtain ⟨p1, p2⟩ := p
  simp only [] at NEG ADD
  simp only []
  obtain ⟨k1, k2, k3, k4, k5, k6, k7, k8⟩ := hS.cells
  have hT := hS.drew.t
  have hS' := hS.drew
  go_enter Try.func15, Try.ntmps15
  go_wp2
  go_region_held3 (fun w' => BiT w an ad bn bd w' ∧ w'.cell? ⟨w.heap.size, 0, none⟩ = some (.int .i64 an) ∧ w'.cell? ⟨w.heap.size, 1, none⟩ = some (.int .i64 ad) ∧ w'.cell? ⟨w.heap.size + 1, 0, none⟩ = some (.int .i64 bn) ∧ w'.cell? ⟨w.heap.size + 1, 1, none⟩ = some (.int .i64 bd)) (first | exact BiT.all (by assumption) | exact BiT.all (((by assumption : BiT w an ad bn bd _).st _ _ (by omega) _).st _ _ (by omega) _))
    (first
      | (go_at_call 30; (with_reducible refine (NEG.out _).mono ?_); rintro e w1 ⟨rfl, hb1⟩; have hS1 := hS'.step hb1; have hT1 := hS1.t)
      | (go_at_call 13; (with_reducible refine (ADD.out _).mono ?_); rintro e w4 ⟨he, hb4⟩; have hS4 := hS1.step hb4; have hT4 := hS4.t; obtain ⟨x1, x2, x3, hx, he'⟩ := RatE_cases he; subst he'; have hcs := hS4.cells; obtain ⟨m1, m2, m3, m4, m5, m6, m7, m8⟩ := hcs))
  clear k1 k2 k3 k4 k5 k6 k7 k8
  go_wp2
  obtain ⟨m1, m2, m3, m4, m5, m6, m7, m8⟩ := hS4.cells
  refine bodyPost_ret (v := .tuple #[.agg #[.int .i64 x1, .int .i64 x2], .int .i64 x3]) (by simp [results, Try.results15, go_sem, m5, m6]) rfl ⟨?_, (hS4.1.setCell (by simp; omega) _).setCell (by simp; omega) _⟩
  rw [← hx]
  rfl

end Go.Proofs.Ytpjjbdpkhmeldaa
