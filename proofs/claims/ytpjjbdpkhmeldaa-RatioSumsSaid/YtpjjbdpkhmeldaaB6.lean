/- contract of ratio's Div -/
import Derived.Test.YtpjjbdpkhmeldaaB5
namespace Go.Proofs.Ytpjjbdpkhmeldaa
open Go.RowKit

set_option maxHeartbeats 1000000 in
theorem divS_ea (an ad bn bd : Int) (w : World) (han : I64 an) (had : I64 ad) (_hbn : I64 bn) (_hbd : I64 bd) (hva : Hid (validB an ad = false)) :
    Calls Try.prog 18 #[.agg #[.int .i64 an, .int .i64 ad], .agg #[.int .i64 bn, .int .i64 bd]] w fun e w' => e = RatE (0, 0, 1) ∧ Below w.heap.size w w' := by
  have hS := BiS.start w an ad bn bd
  go_enter Try.func18, Try.ntmps18
  go_wp2_with fail
  refine (valid_any an ad false hva.out _ han had).mono ?_
  rintro e wa ⟨rfl, hba⟩
  replace hS := hS.step hba
  clear hba

  obtain ⟨k1, k2, k3, k4, k5, k6, k7, k8⟩ := hS.cells
  have hbl := hS.1
  clear hS
  go_wp2
  refine bodyPost_ret (v := .tuple #[.agg #[.int .i64 0, .int .i64 0], .int .i64 1]) (by simp [results, Try.results18, go_sem, k5, k6]) rfl ⟨rfl, (hbl.setCell (by simp; omega) _).setCell (by simp; omega) _⟩

set_option maxHeartbeats 1000000 in
theorem divS_eb (an ad bn bd : Int) (w : World) (han : I64 an) (had : I64 ad) (hbn : I64 bn) (hbd : I64 bd) (hva : Hid (validB an ad = true)) (hvb : Hid (validB bn bd = false)) :
    Calls Try.prog 18 #[.agg #[.int .i64 an, .int .i64 ad], .agg #[.int .i64 bn, .int .i64 bd]] w fun e w' => e = RatE (0, 0, 1) ∧ Below w.heap.size w w' := by
  have hS := BiS.start w an ad bn bd
  go_enter Try.func18, Try.ntmps18
  go_wp2_with fail
  refine (valid_any an ad true hva.out _ han had).mono ?_
  rintro e wa ⟨rfl, hba⟩
  replace hS := hS.step hba
  clear hba
  obtain ⟨k1, k2, k3, k4, k5, k6, k7, k8⟩ := hS.cells
  go_wp2_with fail
  clear k1 k2 k3 k4 k5 k6 k7 k8
  refine (valid_any bn bd false hvb.out _ hbn hbd).mono ?_
  rintro e wb ⟨rfl, hbb⟩
  replace hS := hS.step hbb
  clear hbb

  obtain ⟨k1, k2, k3, k4, k5, k6, k7, k8⟩ := hS.cells
  have hbl := hS.1
  clear hS
  go_wp2
  refine bodyPost_ret (v := .tuple #[.agg #[.int .i64 0, .int .i64 0], .int .i64 1]) (by simp [results, Try.results18, go_sem, k5, k6]) rfl ⟨rfl, (hbl.setCell (by simp; omega) _).setCell (by simp; omega) _⟩

set_option maxHeartbeats 1000000 in
theorem divS_ec (an ad bn bd : Int) (w : World) (han : I64 an) (had : I64 ad) (hbn : I64 bn) (hbd : I64 bd) (hva : Hid (validB an ad = true)) (hvb : Hid (validB bn bd = true)) (hz : bn = 0) :
    Calls Try.prog 18 #[.agg #[.int .i64 an, .int .i64 ad], .agg #[.int .i64 bn, .int .i64 bd]] w fun e w' => e = RatE (0, 0, 1) ∧ Below w.heap.size w w' := by
  have hz' : (bn == 0) = true := by simpa using hz
  clear hz
  have hS := BiS.start w an ad bn bd
  go_enter Try.func18, Try.ntmps18
  go_wp2_with fail
  refine (valid_any an ad true hva.out _ han had).mono ?_
  rintro e wa ⟨rfl, hba⟩
  replace hS := hS.step hba
  clear hba
  obtain ⟨k1, k2, k3, k4, k5, k6, k7, k8⟩ := hS.cells
  go_wp2_with fail
  clear k1 k2 k3 k4 k5 k6 k7 k8
  refine (valid_any bn bd true hvb.out _ hbn hbd).mono ?_
  rintro e wb ⟨rfl, hbb⟩
  replace hS := hS.step hbb
  clear hbb

  obtain ⟨k1, k2, k3, k4, k5, k6, k7, k8⟩ := hS.cells
  have hbl := hS.1
  clear hS
  go_wp2
  refine bodyPost_ret (v := .tuple #[.agg #[.int .i64 0, .int .i64 0], .int .i64 1]) (by simp [results, Try.results18, go_sem, k5, k6]) rfl ⟨rfl, (hbl.setCell (by simp; omega) _).setCell (by simp; omega) _⟩

set_option maxHeartbeats 4000000 in
theorem divS_ok (an : Int) (ad : Nat) (bn : Int) (bd : Nat) (w : World) (han : I64 an) (had : I64 ad) (hbn : I64 bn) (hbd : I64 bd) (hva : Hid (validB an ad = true)) (hvb : Hid (validB bn bd = true)) (hnz : bn ≠ 0) :
    Calls Try.prog 18 #[.agg #[.int .i64 an, .int .i64 ad], .agg #[.int .i64 bn, .int .i64 bd]] w fun e w' => e = RatE (divS an ad bn bd) ∧ Below w.heap.size w w' := by
  have hS := BiS.start w an ad bn bd
  obtain ⟨a1, a2, a3, a4, a5⟩ := validB_true hva.out
  obtain ⟨b1, b2, b3, b4, b5⟩ := validB_true hvb.out
  clear a5 b5
  have CA := Lib.hid (fun wx => of_any an ad wx (by omega) (by omega))
  have CB := Lib.hid (fun wx => of_any bn bd wx (by omega) (by omega))
  have hz : (bn == 0) = false := by simpa using hnz
  go_enter Try.func18, Try.ntmps18
  go_wp2_with fail
  refine (valid_any an ad true hva.out _ han had).mono ?_
  rintro e wa ⟨rfl, hba⟩
  replace hS := hS.step hba
  clear hba
  obtain ⟨k1, k2, k3, k4, k5, k6, k7, k8⟩ := hS.cells
  go_wp2_with fail
  clear k1 k2 k3 k4 k5 k6 k7 k8
  refine (valid_any bn bd true hvb.out _ hbn hbd).mono ?_
  rintro e wb ⟨rfl, hbb⟩
  replace hS := hS.step hbb
  clear hbb
  obtain ⟨k1, k2, k3, k4, k5, k6, k7, k8⟩ := hS.cells
  go_upto_region 3 with fail
  clear k1 k2 k3 k4 k5 k6 k7 k8
  refine wp_region_V (by kernel_rfl) [22, 23, 24, 25, 6, 7] (by kernel_rfl) (by intro s hs; simp at hs ⊢; omega) (MuF 22 23 24 25 w an ad bn bd) ?_ ?_ ?_
  · exact ⟨hS.drew, by simp, by simp, by simp, by simp, by simp, by simp, by simp, by simp, by simp⟩
  · intro i o D V w' ho hF hDi hpre hV
    obtain ⟨f0, f1, f2, f3, f4, f5, f6, f7, f8, f9⟩ := hF
    obtain ⟨k1, k2, k3, k4, k5, k6, k7, k8⟩ := f0.cells
    have hV2 := hV 2 (by simp)
    have hV3 := hV 3 (by simp)
    simp at hV2 hV3
    rcases i with _ | _ | _ | _ | _ | _ | _ | _ | i
    · simp at ho; subst ho
      simp [opRun, execOp, evalV, hV2, go_sem, k1, k2]
      exact ⟨f0, fun _ => rfl, f2, f3, f4, f5, f6, f7, f8, f9⟩
    · simp at ho; subst ho
      simp [Region.binds] at hpre
      have e := f1 (by first | exact hpre | exact hpre.1 | exact hpre.2 | exact hpre.2.1 | exact hpre.2.2 | exact hpre.2.2.1 | exact hpre.2.2.2 | exact hpre.2.2.2.1 | exact hpre.2.2.2.2)
      simp [opRun, execOp, evalV, e, go_sem]
      refine (CA.out w').mono ?_
      rintro e w1 ⟨v, rfl, hv, hb⟩
      exact ⟨v, rfl, f0.step hb, f1, fun _ => hv, f3, fun h => (f4 h).below hb, fun h => (f5 h).below hb, fun h => (f6 h).below hb, f7, f8, f9⟩
    · simp at ho; subst ho
      simp [opRun, execOp, evalV, hV3, go_sem, k3, k4]
      exact ⟨f0, f1, f2, fun _ => rfl, f4, f5, f6, f7, f8, f9⟩
    · simp at ho; subst ho
      simp [Region.binds] at hpre
      have e := f3 (by first | exact hpre | exact hpre.1 | exact hpre.2 | exact hpre.2.1 | exact hpre.2.2 | exact hpre.2.2.1 | exact hpre.2.2.2 | exact hpre.2.2.2.1 | exact hpre.2.2.2.2)
      simp [opRun, execOp, evalV, e, go_sem]
      refine (CB.out w').mono ?_
      rintro e w1 ⟨v, rfl, hv, hb⟩
      exact ⟨v, rfl, f0.step hb, f1, fun h => (f2 h).below hb, f3, fun _ => hv, fun h => (f5 h).below hb, fun h => (f6 h).below hb, f7, f8, f9⟩
    · simp at ho; subst ho
      simp [opRun, execOp, go_sem]
      refine ⟨f0.alloc _, f1, fun h => (f2 h).alloc _, f3, fun h => (f4 h).alloc _, fun _ => FrB.made f0.size _ _ _ (fun h => ?_), fun h => (f6 h).alloc _, fun _ h => (f6 h).ne_made.symm, fun _ => rfl, f9⟩
      have := f8 h
      rw [hDi] at this; cases this
    · simp at ho; subst ho
      simp [opRun, execOp, go_sem]
      refine ⟨f0.alloc _, f1, fun h => (f2 h).alloc _, f3, fun h => (f4 h).alloc _, fun h => (f5 h).alloc _, fun _ => FrB.made f0.size _ _ _ (fun h => ?_), fun h _ => (f5 h).ne_made, f8, fun _ => rfl⟩
      have := f9 h
      rw [hDi] at this; cases this
    · simp at ho; subst ho
      simp [Region.binds] at hpre
      have d4 : D 4 = true := (by first | exact hpre | exact hpre.1 | exact hpre.2 | exact hpre.2.1 | exact hpre.2.2 | exact hpre.2.2.1 | exact hpre.2.2.2 | exact hpre.2.2.2.1 | exact hpre.2.2.2.2)
      have d1 : D 1 = true := (by first | exact hpre | exact hpre.1 | exact hpre.2 | exact hpre.2.1 | exact hpre.2.2 | exact hpre.2.2.1 | exact hpre.2.2.2 | exact hpre.2.2.2.1 | exact hpre.2.2.2.2)
      obtain ⟨b, e6, hb6, hh, hfull⟩ := f5 d4
      obtain ⟨x1, x2, e18, n1, n2⟩ := f2 d1
      obtain ⟨q1, r1, s1⟩ := n1.shape
      obtain ⟨q2, r2, s2⟩ := n2.shape
      subst s1 s2
      have m0 := hh.cell 0 (by omega)
      have m1 := hh.cell 1 (by omega)
      have m2 := hh.cell 2 (by omega)
      have m3 := hh.free 0
      have m4 := hh.free 1
      have m5 := hh.free 2
      simp [opRun, execOp, evalV, e6, e18, go_sem, m0, m1, m2, m3, m4, m5]
      refine ⟨f0.set3 hb6 _ _ _, f1, fun h => (f2 h).set3 hh _, f3, fun h => (f4 h).set3 hh _, fun _ => ?_, fun h => (f6 h).set3o hh (fun e => f7 d4 h (by rw [e6, e])) _, f7, fun _ => d4, f9⟩
      have := f5 d4
      rw [e6] at this
      rw [show V 6 = _ from e6]
      exact this.set3 n1 n2
    · simp at ho; subst ho
      simp [Region.binds] at hpre
      have d5 : D 5 = true := (by first | exact hpre | exact hpre.1 | exact hpre.2 | exact hpre.2.1 | exact hpre.2.2 | exact hpre.2.2.1 | exact hpre.2.2.2 | exact hpre.2.2.2.1 | exact hpre.2.2.2.2)
      have d3 : D 3 = true := (by first | exact hpre | exact hpre.1 | exact hpre.2 | exact hpre.2.1 | exact hpre.2.2 | exact hpre.2.2.1 | exact hpre.2.2.2 | exact hpre.2.2.2.1 | exact hpre.2.2.2.2)
      obtain ⟨b, e7, hb7, hh, hfull⟩ := f6 d5
      obtain ⟨x1, x2, e20, n1, n2⟩ := f4 d3
      obtain ⟨q1, r1, s1⟩ := n1.shape
      obtain ⟨q2, r2, s2⟩ := n2.shape
      subst s1 s2
      have m0 := hh.cell 0 (by omega)
      have m1 := hh.cell 1 (by omega)
      have m2 := hh.cell 2 (by omega)
      have m3 := hh.free 0
      have m4 := hh.free 1
      have m5 := hh.free 2
      simp [opRun, execOp, evalV, e7, e20, go_sem, m0, m1, m2, m3, m4, m5]
      refine ⟨f0.set3 hb7 _ _ _, f1, fun h => (f2 h).set3 hh _, f3, fun h => (f4 h).set3 hh _, fun h => (f5 h).set3o hh (fun e => f7 h d5 (by rw [e7, e])) _, fun _ => ?_, f7, f8, fun _ => d5⟩
      have := f6 d5
      rw [e7] at this
      rw [show V 7 = _ from e7]
      exact this.set3 n1 n2
    · simp at ho
  · intro D V w' hF hall
    obtain ⟨f0, f1, f2, f3, f4, f5, f6, f7, f8, f9⟩ := hF
    obtain ⟨bx, e6, hbx, _, hx⟩ := f5 (hall 4 (by decide))
    obtain ⟨bY, e7, hby, _, hy⟩ := f6 (hall 5 (by decide))
    obtain ⟨x1, x2, hbx1, nx1, nx2⟩ := hx (hall 6 (by decide))
    obtain ⟨y1, y2, hby1, ny1, ny2⟩ := hy (hall 7 (by decide))
    have e17 := f1 (hall 0 (by decide))
    have e19 := f3 (hall 2 (by decide))
    obtain ⟨v18, e18⟩ : ∃ v, v = V 23 := ⟨_, rfl⟩
    obtain ⟨v20, e20⟩ : ∃ v, v = V 25 := ⟨_, rfl⟩
    simp only [putAll, List.foldl_cons, List.foldl_nil, e6, e7, e17, e19, ← e18, ← e20]
    clear f1 f2 f3 f4 f5 f6 f7 f8 f9 hall hx hy e6 e7 e17 e19 e18 e20 hS
    simp only [Int.natAbs_natCast] at nx2 ny2
    obtain ⟨q1, r1, s1⟩ := nx1.shape
    obtain ⟨q2, r2, s2⟩ := nx2.shape
    obtain ⟨q3, r3, s3⟩ := ny1.shape
    obtain ⟨q4, r4, s4⟩ := ny2.shape
    have hl1 := natAbs_len an han
    have hl2 := nat_len ad (by omega)
    have hl3 := natAbs_len bn hbn
    have hl4 := nat_len bd (by omega)
    have hpl1 := digs_length_mul W32 W32_ge an.natAbs bd
    have hpl2 := digs_length_mul W32 W32_ge ad bn.natAbs
    obtain ⟨L1, hL1⟩ : ∃ l, l = (digs W32 an.natAbs).length := ⟨_, rfl⟩
    obtain ⟨L2, hL2⟩ : ∃ l, l = (digs W32 ad).length := ⟨_, rfl⟩
    obtain ⟨L3, hL3⟩ : ∃ l, l = (digs W32 bn.natAbs).length := ⟨_, rfl⟩
    obtain ⟨L4, hL4⟩ : ∃ l, l = (digs W32 bd).length := ⟨_, rfl⟩
    rw [← hL1] at s1; rw [← hL2] at s2; rw [← hL3] at s3; rw [← hL4] at s4
    subst s1 s2 s3 s4
    clear hL1 hL2 hL3 hL4
    have hdp : 0 < ad * bn.natAbs := Nat.mul_pos (by omega) (by omega)
    have M1 := Lib.hid (fun wx h1 h2 => mul_any (.slice q1 L1 r1) (.slice q4 L4 r4) an.natAbs bd wx h1 h2 (by omega) (by omega))
    have M2 := Lib.hid (fun wx h1 h2 => mul_any (.slice q2 L2 r2) (.slice q3 L3 r3) ad bn.natAbs wx h1 h2 (by omega) (by omega))
    have e1 : divS an ad bn bd = ratioS (decide (an < 0) != decide (bn < 0)) (an.natAbs * bd) (ad * bn.natAbs) := by
      unfold divS; rw [hva.out, hvb.out, show (bn != 0) = true from by simpa using hnz]; rfl
    rw [bne_form] at e1
    have HE := Lib.hid e1
    obtain ⟨P1, hP1⟩ : ∃ p, p = an.natAbs * bd := ⟨_, rfl⟩
    obtain ⟨P2, hP2⟩ : ∃ p, p = ad * bn.natAbs := ⟨_, rfl⟩
    rw [← hP1] at M1 HE hpl1
    rw [← hP2] at M2 HE hpl2 hdp
    have RAT := Lib.hid (fun v wx h => ratio_any v (!decide (an < 0) == decide (bn < 0)) P1 P2 wx h (by omega) (by omega) hdp)
    have hT : MuT w bx bY (decide (an < 0)) (.slice q1 L1 r1) (.slice q2 L2 r2) (decide (bn < 0)) (.slice q3 L3 r3) (.slice q4 L4 r4) w' := ⟨f0.1, hbx1, hby1, hbx, hby⟩
    have hTd : MuT w bx bY (decide (an < 0)) (.slice q1 L1 r1) (.slice q2 L2 r2) (decide (bn < 0)) (.slice q3 L3 r3) (.slice q4 L4 r4) w'.drew := ⟨f0.1.drew, hbx1, hby1, hbx, hby⟩
    have hbd : Below w'.heap.size w' w'.drew := (Below.refl _ _).drew
    have fd := f0.step hbd
    obtain ⟨_, c1, c2, c3, c4, c5, c6⟩ := hT.all
    clear hP1 hP2 e1 hpl1 hpl2 hl1 hl2 hl3 hl4 hdp hbx1 hby1 CA CB
    simp only [Act.put, List.setIfInBounds_toArray, List.set_cons_succ, List.set_cons_zero]
    go_wp2
    go_region_held3 (fun wz => MuT w bx bY (decide (an < 0)) (.slice q1 L1 r1) (.slice q2 L2 r2) (decide (bn < 0)) (.slice q3 L3 r3) (.slice q4 L4 r4) wz ∧ wz.cell? ⟨bx, 0, none⟩ = some (.bool (decide (an < 0))) ∧ wz.cell? ⟨bx, 1, none⟩ = some (.slice q1 L1 r1) ∧ wz.cell? ⟨bx, 2, none⟩ = some (.slice q2 L2 r2) ∧ wz.cell? ⟨bY, 0, none⟩ = some (.bool (decide (bn < 0))) ∧ wz.cell? ⟨bY, 1, none⟩ = some (.slice q3 L3 r3) ∧ wz.cell? ⟨bY, 2, none⟩ = some (.slice q4 L4 r4)) (first | exact MuT.all (by assumption) | exact MuT.all (((by assumption : MuT w bx bY (decide (an < 0)) (.slice q1 L1 r1) (.slice q2 L2 r2) (decide (bn < 0)) (.slice q3 L3 r3) (.slice q4 L4 r4) _).st _ _).st _ _))
      (first
        | (go_at_call 46; (with_reducible refine (M1.out _ (nx1.below hbd) (ny2.below hbd)).mono ?_); rintro e w1 ⟨v1, rfl, hv1, hb1⟩; have hT1 := MuT.step hb1 hTd; have g1 := fd.step hb1; have hbw1 := hbd.trans hb1; obtain ⟨q5, r5, s5⟩ := hv1.shape; subst s5)
        | (go_at_call 46; (with_reducible refine (M2.out _ (nx2.below hbw1) (ny1.below hbw1)).mono ?_); rintro e w2 ⟨v2, rfl, hv2, hb2⟩; have hT2 := MuT.step hb2 hT1; have g2 := g1.step hb2; have hv1' := hv1.below hb2; obtain ⟨q6, r6, s6⟩ := hv2.shape; subst s6)
        | (go_at_call 40; (with_reducible refine (RAT.out _ _ (FracV.of_pair hv1' hv2)).mono ?_); rintro e w3 ⟨he, hb3⟩; have hT3 := MuT.step hb3 hT2; have g3 := g2.step hb3; obtain ⟨z1, z2, z3, hz9, he'⟩ := RatE_cases he; subst he'; have hcs := g3.cells; obtain ⟨m1, m2, m3, m4, m5, m6, m7, m8⟩ := hcs))
    clear c1 c2 c3 c4 c5 c6
    go_wp2
    obtain ⟨m1, m2, m3, m4, m5, m6, m7, m8⟩ := g3.cells
    refine bodyPost_ret (v := .tuple #[.agg #[.int .i64 z1, .int .i64 z2], .int .i64 z3]) (by simp [results, Try.results18, go_sem, m5, m6]) rfl ⟨?_, (g3.1.setCell (by simp; omega) _).setCell (by simp; omega) _⟩
    rw [HE.out, ← hz9]
    rfl

theorem div_ratio (an ad bn bd : Int) (w : World) (han : I64 an) (had : I64 ad) (hbn : I64 bn) (hbd : I64 bd) :
    Calls Try.prog 18 #[.agg #[.int .i64 an, .int .i64 ad], .agg #[.int .i64 bn, .int .i64 bd]] w fun e w' => e = RatE (divS an ad bn bd) ∧ Below w.heap.size w w' := by
  rcases Bool.eq_false_or_eq_true (validB an ad) with hva | hva
  · rcases Bool.eq_false_or_eq_true (validB bn bd) with hvb | hvb
    · obtain ⟨a1, _⟩ := validB_true hva
      obtain ⟨b1, _⟩ := validB_true hvb
      obtain ⟨x, rfl⟩ : ∃ x : Nat, ad = x := ⟨ad.toNat, by omega⟩
      obtain ⟨y, rfl⟩ : ∃ y : Nat, bd = y := ⟨bd.toNat, by omega⟩
      by_cases hz : bn = 0
      · have e : divS an x bn y = (0, 0, 1) := by unfold divS; rw [hva, hvb, hz]; rfl
        rw [e]; exact divS_ec an x bn y w han had hbn hbd hva hvb hz
      · exact divS_ok an x bn y w han had hbn hbd hva hvb hz
    · have e : divS an ad bn bd = (0, 0, 1) := by unfold divS; rw [hva, hvb]; rfl
      rw [e]; exact divS_eb an ad bn bd w han had hbn hbd hva hvb
  · have e : divS an ad bn bd = (0, 0, 1) := by unfold divS; rw [hva]; rfl
    rw [e]; exact divS_ea an ad bn bd w han had hbn hbd hva

end Go.Proofs.Ytpjjbdpkhmeldaa
