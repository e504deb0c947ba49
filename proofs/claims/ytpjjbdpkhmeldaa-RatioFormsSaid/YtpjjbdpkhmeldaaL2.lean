/- the law RatioRounds: what it computes -/
import Derived.Test.YtpjjbdpkhmeldaaL1
namespace Go.Proofs.Ytpjjbdpkhmeldaa
open Go.RowKit

theorem rounds_plain (n d : Int) (h : validB n d = true) :
    (-4611686018427387904 ≤ floorS n d ∧ floorS n d ≤ 4611686018427387904) ∧ (-4611686018427387904 ≤ ceilS n d ∧ ceilS n d ≤ 4611686018427387904) ∧ floorS n d * d ≤ n ∧ n ≤ ceilS n d * d ∧ (floorS n d = ceilS n d ↔ d = 1) ∧
    (floorS n d ≤ ceilS n d ∧ ceilS n d ≤ floorS n d + 1) ∧ (d = 1 → floorS n d = n) := by
  unfold floorS ceilS
  rw [h]
  obtain ⟨h1, h2, h3, h4, h5⟩ := validB_true h
  simp only [if_true]
  obtain ⟨b1, b2⟩ := tdiv_bd n d h1 h3 h4
  have e := Int.mul_tdiv_add_tmod n d
  have r1 : n.tmod d < d ∧ -d < n.tmod d := by
    rcases Int.le_total 0 n with h | h
    · have := Int.tmod_lt_of_pos n (show 0 < d by omega)
      have := Int.tmod_nonneg d h
      omega
    · have h7 := Int.tmod_lt_of_pos (-n) (show 0 < d by omega)
      have h8 := Int.tmod_nonneg d (show 0 ≤ -n by omega)
      rw [Int.neg_tmod] at h7 h8
      omega
  have hz : n.tmod d = 0 ↔ d = 1 := by
    constructor
    · intro hr
      have hdv : d ∣ n := Int.dvd_of_tmod_eq_zero hr
      have h6 : d.natAbs ∣ n.natAbs := Int.natAbs_dvd_natAbs.2 hdv
      rw [Nat.gcd_eq_right h6] at h5
      omega
    · intro hd; subst hd; omega
  generalize n.tmod d = r at *
  generalize n.tdiv d = q at *
  have e2 : d * q = q * d := Int.mul_comm _ _
  have em : (q - 1) * d = q * d - d := by rw [Int.sub_mul, Int.one_mul]
  have ep : (q + 1) * d = q * d + d := by rw [Int.add_mul, Int.one_mul]
  have lo : r < 0 → -4611686018427387904 < q := by
    intro hr
    by_cases hq : -4611686018427387904 < q
    · exact hq
    · have := Int.mul_le_mul_of_nonneg_left (show q ≤ -4611686018427387904 by omega) (show 0 ≤ d by omega)
      omega
  have hi : 0 < r → q < 4611686018427387904 := by
    intro hr
    by_cases hq : q < 4611686018427387904
    · exact hq
    · have := Int.mul_le_mul_of_nonneg_left (show 4611686018427387904 ≤ q by omega) (show 0 ≤ d by omega)
      omega
  have hone : d = 1 → q = n := by
    intro hd
    have := hz.2 hd
    subst hd
    omega
  rcases Int.lt_trichotomy r 0 with hr | hr | hr
  · have := lo hr
    rw [if_pos hr, if_neg (by omega), em]
    refine ⟨by omega, by omega, by omega, by omega, ⟨fun h => by omega, fun h => ?_⟩, by omega, fun h => ?_⟩
    · have := hz.2 h; omega
    · have := hz.2 h; omega
  · rw [if_neg (by omega), if_neg (by omega)]
    exact ⟨by omega, by omega, by omega, by omega, ⟨fun _ => hz.1 hr, fun _ => rfl⟩, by omega, hone⟩
  · have := hi hr
    rw [if_neg (by omega), if_pos hr, ep]
    refine ⟨by omega, by omega, by omega, by omega, ⟨fun h => by omega, fun h => ?_⟩, by omega, fun h => ?_⟩
    · have := hz.2 h; omega
    · have := hz.2 h; omega

theorem ofS_one (n : Int) (h1 : -4611686018427387904 ≤ n) (h2 : n ≤ 4611686018427387904) : ofS n 1 = (n, 1, 0) := by
  unfold ofS ratioS
  rw [if_neg (by omega)]
  simp only [Int.natAbs_one, Nat.gcd_one_right, Nat.div_one]
  rw [if_pos (by unfold P62; omega)]
  by_cases h : n < 0
  · have e : (decide (n < 0) != decide ((1 : Int) < 0)) = true := by simp; omega
    rw [e]; simp; omega
  · have e : (decide (n < 0) != decide ((1 : Int) < 0)) = false := by simp; omega
    rw [e]; simp; omega

theorem validB_one (n : Int) (h1 : -4611686018427387904 ≤ n) (h2 : n ≤ 4611686018427387904) : validB n 1 = true := by
  unfold validB
  exact decide_eq_true ⟨by omega, by omega, h1, h2, by simp⟩

/-- the argument's box -/
def RnS (w : World) (n d : Int) (w' : World) : Prop := Below w.heap.size w w' ∧ Box w' w.heap.size 25 [.int .i64 n, .int .i64 d]
theorem RnS.step {w : World} {n d : Int} {w1 w2 : World} (hb : Below w1.heap.size w1 w2) (h : RnS w n d w1) : RnS w n d w2 := ⟨h.1.trans (hb.mono h.1.size), h.2.below hb⟩
theorem RnS.drew {w : World} {n d : Int} {w1 : World} (h : RnS w n d w1) : RnS w n d w1.drew := ⟨h.1.drew, h.2⟩
theorem RnS.al {w : World} {n d : Int} {w1 : World} (h : RnS w n d w1) (o : Obj) : RnS w n d (w1.alloc o) := ⟨h.1.alloc h.1.size _, h.2.alloc _⟩
theorem RnS.start (w : World) (n d : Int) : RnS w n d (w.alloc (Obj.cells #[.int .i64 n, .int .i64 d] 25)) := ⟨(Below.refl _ _).alloc (Nat.le_refl _) _, Box.made w 25 _⟩
theorem RnS.cells {w : World} {n d : Int} {w' : World} (h : RnS w n d w') : w'.cell? ⟨w.heap.size, 0, none⟩ = some (.int .i64 n) ∧ w'.cell? ⟨w.heap.size, 1, none⟩ = some (.int .i64 d) := ⟨h.2.cell 0 _ rfl, h.2.cell 1 _ rfl⟩
theorem RnS.all {w : World} {n d : Int} {w' : World} (h : RnS w n d w') : RnS w n d w' ∧ w'.cell? ⟨w.heap.size, 0, none⟩ = some (.int .i64 n) ∧ w'.cell? ⟨w.heap.size, 1, none⟩ = some (.int .i64 d) := ⟨h, h.cells⟩

set_option maxHeartbeats 1000000 in
theorem rounds_no (n d : Int) (w : World) (hn : I64 n) (hd : I64 d) (hv : Hid (validB n d = false)) :
    Calls Try.prog 6 #[.agg #[.int .i64 n, .int .i64 d]] w fun e w' => e = .returned (.bool true) ∧ Below w.heap.size w w' := by
  have hS := RnS.start w n d
  have CA := Lib.hid (fun wx => awake_any wx)
  have CV := Lib.hid (fun wx => rvalid_any n d false hv.out wx hn hd)
  have CF := Lib.hid (fun wx => Floor_any n d wx hn hd)
  have CC := Lib.hid (fun wx => Ceil_any n d wx hn hd)
  have e1 : floorS n d = 0 := by unfold floorS; rw [hv.out]; rfl
  have e2 : ceilS n d = 0 := by unfold ceilS; rw [hv.out]; rfl
  rw [e1] at CF
  rw [e2] at CC
  clear e1 e2 hv
  go_enter Try.func6, Try.ntmps6
  go_wp2_with fail
  (with_reducible refine (CA.out _).mono ?_)
  rintro e w1 ⟨rfl, hb1⟩
  replace hS := hS.step hb1
  obtain ⟨k1, k2⟩ := hS.cells
  clear hb1
  go_wp2_with fail
  (with_reducible refine (CV.out _).mono ?_)
  clear k1 k2
  rintro e w2 ⟨rfl, hb2⟩
  replace hS := hS.step hb2
  obtain ⟨k1, k2⟩ := hS.cells
  clear hb2
  go_wp2_with fail
  (with_reducible refine (CF.out _).mono ?_)
  clear k1 k2
  rintro e w3 ⟨rfl, hb3⟩
  replace hS := hS.step hb3
  obtain ⟨k1, k2⟩ := hS.cells
  clear hb3
  go_wp2_with fail
  (with_reducible refine (CC.out _).mono ?_)
  clear k1 k2
  rintro e w4 ⟨rfl, hb4⟩
  replace hS := hS.step hb4
  clear hb4
  go_wp2
  go_ret
  exact ⟨rfl, hS.1⟩

set_option maxHeartbeats 2000000 in
theorem rounds_yes (n d : Int) (w : World) (hn : I64 n) (hd : I64 d) (hv : Hid (validB n d = true)) (b : Bool) (hb : (d == 1) = b) :
    Calls Try.prog 6 #[.agg #[.int .i64 n, .int .i64 d]] w fun e w' => e = .returned (.bool true) ∧ Below w.heap.size w w' := by
  have hS := RnS.start w n d
  have CA := Lib.hid (fun wx => awake_any wx)
  have CV := Lib.hid (fun wx => rvalid_any n d true hv.out wx hn hd)
  have CF := Lib.hid (fun wx => Floor_any n d wx hn hd)
  have CC := Lib.hid (fun wx => Ceil_any n d wx hn hd)
  obtain ⟨⟨f1, f2⟩, ⟨c1, c2⟩, p1, p2, p3, ⟨p4, p5⟩, p6⟩ := rounds_plain n d hv.out
  obtain ⟨F, hF⟩ : ∃ F, F = floorS n d := ⟨_, rfl⟩
  obtain ⟨C, hC⟩ : ∃ C, C = ceilS n d := ⟨_, rfl⟩
  rw [← hF] at CF f1 f2 p1 p3 p4 p5 p6
  rw [← hC] at CC c1 c2 p2 p3 p4 p5
  clear hF hC
  have IF := Lib.hid (fun wx => Int_any F wx ⟨by omega, by omega⟩)
  have IC := Lib.hid (fun wx => Int_any C wx ⟨by omega, by omega⟩)
  rw [ofS_one F f1 f2] at IF
  rw [ofS_one C c1 c2] at IC
  have X := Lib.hid (fun wx => cmp_ratio F 1 n d wx ⟨by omega, by omega⟩ ⟨by omega, by omega⟩ hn hd)
  have Y := Lib.hid (fun wx => cmp_ratio n d C 1 wx hn hd ⟨by omega, by omega⟩ ⟨by omega, by omega⟩)
  have ex : cmpS F 1 n d ≤ 0 := by
    unfold cmpS
    rw [validB_one F f1 f2, hv.out]
    simp only [Bool.and_self, if_true]
    rcases sgn_cases (F * d - n * 1) with ⟨_, h⟩ | ⟨_, h⟩ | ⟨h0, h⟩ <;> rw [h] <;> omega
  have ey : cmpS n d C 1 ≤ 0 := by
    unfold cmpS
    rw [validB_one C c1 c2, hv.out]
    simp only [Bool.and_self, if_true]
    rcases sgn_cases (n * 1 - C * d) with ⟨_, h⟩ | ⟨_, h⟩ | ⟨h0, h⟩ <;> rw [h] <;> omega
  obtain ⟨x, hx⟩ : ∃ x, x = cmpS F 1 n d := ⟨_, rfl⟩
  obtain ⟨y, hy⟩ : ∃ y, y = cmpS n d C 1 := ⟨_, rfl⟩
  rw [← hx] at X ex
  rw [← hy] at Y ey
  have dx : decide (0 < x) = false := by simp; omega
  have dy : decide (0 < y) = false := by simp; omega
  have hFC : (F == C) = b := by
    rw [← hb]
    by_cases h : d = 1
    · rw [p3.2 h, h]; simp
    · have h2 : F ≠ C := fun e => h (p3.1 e)
      have e1 : (F == C) = false := by simpa using h2
      have e2 : (d == 1) = false := by simpa using h
      rw [e1, e2]
  have hsub : IntKind.i64.wrap (C - F) = C - F := IntWalk.i64_in _ (by omega)
  have dd : decide (1 < C - F) = false := by simp; omega
  have hlast : (d == 1) = true → (F == n) = true := by
    intro h
    have := p6 (by simpa using h)
    simpa using this
  have HL := Lib.hid hlast
  clear hx hy ex ey hv p1 p2 p3 p4 p5 p6 hlast
  go_enter Try.func6, Try.ntmps6
  go_wp2_with fail
  (with_reducible refine (CA.out _).mono ?_)
  rintro e w1 ⟨rfl, hb1⟩
  replace hS := hS.step hb1
  obtain ⟨k1, k2⟩ := hS.cells
  clear hb1
  go_wp2_with fail
  (with_reducible refine (CV.out _).mono ?_)
  clear k1 k2
  rintro e w2 ⟨rfl, hb2⟩
  replace hS := hS.step hb2
  obtain ⟨k1, k2⟩ := hS.cells
  clear hb2
  have hS' := hS.drew
  go_wp2
  go_region_held3 (fun w' => RnS w n d w' ∧ w'.cell? ⟨w.heap.size, 0, none⟩ = some (.int .i64 n) ∧ w'.cell? ⟨w.heap.size, 1, none⟩ = some (.int .i64 d)) (first | exact RnS.all (by assumption))
    (first
      | (go_at_call 22; (with_reducible refine (CF.out _).mono ?_); rintro e w1 ⟨rfl, hb1⟩; have hS1 := hS'.step hb1)
      | (go_at_call 23; (with_reducible refine (CC.out _).mono ?_); rintro e w4 ⟨rfl, hb4⟩; have hS4 := hS1.step hb4))
  clear k1 k2 hS hS' hS1 hb1 hb4
  go_wp2_with fail
  (with_reducible refine (IF.out _).mono ?_)
  unfold RatE
  rintro e w5 ⟨rfl, hb5⟩
  replace hS4 := hS4.step hb5
  clear hb5
  have x1 := Box.made w5 25 [.int .i64 F, .int .i64 1]
  replace hS4 := hS4.al (Obj.cells #[.int .i64 F, .int .i64 1] 25)
  go_wp2_with fail
  (with_reducible refine (IC.out _).mono ?_)
  unfold RatE
  rintro e w6 ⟨rfl, hb6⟩
  replace hS4 := hS4.step hb6
  replace x1 := x1.below hb6
  clear hb6
  have x2 := Box.made w6 25 [.int .i64 C, .int .i64 1]
  replace x1 := x1.alloc (Obj.cells #[.int .i64 C, .int .i64 1] 25)
  replace hS4 := hS4.al (Obj.cells #[.int .i64 C, .int .i64 1] 25)
  obtain ⟨k1, k2⟩ := hS4.cells
  have k3 := x1.cell 0 _ rfl; have k4 := x1.cell 1 _ rfl; have k5 := x2.cell 0 _ rfl; have k6 := x2.cell 1 _ rfl
  go_wp2_with fail
  (with_reducible refine (X.out _).mono ?_)
  clear k1 k2 k3 k4 k5 k6
  rintro e w7 ⟨rfl, hb7⟩
  replace hS4 := hS4.step hb7
  replace x1 := x1.below hb7
  replace x2 := x2.below hb7
  clear hb7
  obtain ⟨k1, k2⟩ := hS4.cells
  have k3 := x1.cell 0 _ rfl; have k4 := x1.cell 1 _ rfl; have k5 := x2.cell 0 _ rfl; have k6 := x2.cell 1 _ rfl
  go_wp2_with fail
  (with_reducible refine (Y.out _).mono ?_)
  clear k1 k2 k3 k4 k5 k6
  rintro e w8 ⟨rfl, hb8⟩
  replace hS4 := hS4.step hb8
  clear hb8
  obtain ⟨k1, k2⟩ := hS4.cells
  cases b with
  | true =>
    have hlast := HL.out hb
    clear HL
    have hd1 : d = 1 := by simpa using hb
    have hd2 : (d != 1) = false := by simpa using hd1
    go_wp2
    go_ret
    exact ⟨rfl, hS4.1⟩
  | false =>
    clear HL
    have hd1 : ¬ d = 1 := by simpa using hb
    have hd2 : (d != 1) = true := by simpa using hd1
    go_wp2
    go_ret
    exact ⟨rfl, hS4.1⟩

theorem rounds_any (n d : Int) (w : World) (hn : I64 n) (hd : I64 d) :
    Calls Try.prog 6 #[.agg #[.int .i64 n, .int .i64 d]] w fun e w' => e = .returned (.bool true) ∧ Below w.heap.size w w' := by
  rcases Bool.eq_false_or_eq_true (validB n d) with h | h
  · exact rounds_yes n d w hn hd h _ rfl
  · exact rounds_no n d w hn hd h

end Go.Proofs.Ytpjjbdpkhmeldaa
