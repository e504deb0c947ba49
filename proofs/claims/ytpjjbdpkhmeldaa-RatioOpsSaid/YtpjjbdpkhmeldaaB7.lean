/- contract of ratio's Cmp -/
import Derived.Test.YtpjjbdpkhmeldaaB6
namespace Go.Proofs.Ytpjjbdpkhmeldaa
open Go.RowKit

def cmpS (an ad bn bd : Int) : Int := if validB an ad && validB bn bd then sgn (an * bd - bn * ad) else 0

/-- two ratios' boxes -/
def B2 (w : World) (an ad bn bd : Int) (w' : World) : Prop :=
  Below w.heap.size w w' ∧ Box w' w.heap.size 25 [.int .i64 an, .int .i64 ad] ∧ Box w' (w.heap.size + 1) 25 [.int .i64 bn, .int .i64 bd]
theorem B2.step {w : World} {an ad bn bd : Int} {w1 w2 : World} (hb : Below w1.heap.size w1 w2) (h : B2 w an ad bn bd w1) : B2 w an ad bn bd w2 := by
  obtain ⟨h1, h2, h3⟩ := h
  exact ⟨h1.trans (hb.mono h1.size), h2.below hb, h3.below hb⟩
theorem B2.start (w : World) (an ad bn bd : Int) : B2 w an ad bn bd ((w.alloc (Obj.cells #[.int .i64 an, .int .i64 ad] 25)).alloc (Obj.cells #[.int .i64 bn, .int .i64 bd] 25)) := by
  have e1 := Box.made w 25 [.int .i64 an, .int .i64 ad]
  have e2 := Box.made (w.alloc (Obj.cells #[.int .i64 an, .int .i64 ad] 25)) 25 [.int .i64 bn, .int .i64 bd]
  rw [alloc_size] at e2
  exact ⟨((Below.refl _ _).alloc (Nat.le_refl _) _).alloc (by simp) _, e1.alloc _, e2⟩
theorem B2.cells {w : World} {an ad bn bd : Int} {w' : World} (h : B2 w an ad bn bd w') :
    w'.cell? ⟨w.heap.size, 0, none⟩ = some (.int .i64 an) ∧ w'.cell? ⟨w.heap.size, 1, none⟩ = some (.int .i64 ad) ∧ w'.cell? ⟨w.heap.size + 1, 0, none⟩ = some (.int .i64 bn) ∧ w'.cell? ⟨w.heap.size + 1, 1, none⟩ = some (.int .i64 bd) :=
  ⟨h.2.1.cell 0 _ rfl, h.2.1.cell 1 _ rfl, h.2.2.cell 0 _ rfl, h.2.2.cell 1 _ rfl⟩

theorem mul64_c (x y h l : Nat) (hx : x < 18446744073709551616) (hy : y < 18446744073709551616) (hh : h = x * y / 18446744073709551616) (hl : l = x * y % 18446744073709551616) (w : World) :
    Calls Try.prog 50 #[.int .u64 x, .int .u64 y] w fun e w' => e = .returned (.tuple #[.int .u64 (h : Int), .int .u64 (l : Int)]) ∧ w' = w := by
  rw [hh, hl]
  exact Try.bits_Mul64 x y hx hy w

theorem sgn_neg {a : Int} (h : a < 0) : sgn a = -1 := if_pos h
theorem sgn_pos {a : Int} (h : 0 < a) : sgn a = 1 := by unfold sgn; rw [if_neg (by omega), if_pos h]
theorem sgn_zero : sgn 0 = 0 := rfl
theorem sgn_cases (a : Int) : (a < 0 ∧ sgn a = -1) ∨ (a = 0 ∧ sgn a = 0) ∨ (0 < a ∧ sgn a = 1) := by
  rcases Int.lt_trichotomy a 0 with h | h | h
  · exact .inl ⟨h, sgn_neg h⟩
  · exact .inr (.inl ⟨h, by rw [h]; rfl⟩)
  · exact .inr (.inr ⟨h, sgn_pos h⟩)

theorem sgn_mul_pos (a b : Int) (h : 0 < b) : sgn (a * b) = sgn a := by
  rcases Int.lt_trichotomy a 0 with h1 | h1 | h1
  · rw [sgn_neg h1, sgn_neg (Int.mul_neg_of_neg_of_pos h1 h)]
  · subst h1; simp
  · rw [sgn_pos h1, sgn_pos (Int.mul_pos h1 h)]

/-- unlike signs, or nought -/
theorem cmp_signs (an ad bn bd : Int) (ha : 0 < ad) (hb : 0 < bd) (h : sgn an ≠ sgn bn ∨ sgn an = 0) : sgn (sgn an - sgn bn) = sgn (an * bd - bn * ad) := by
  have e1 := sgn_mul_pos an bd hb
  have e2 := sgn_mul_pos bn ad ha
  rw [← e1, ← e2]
  rw [← e1, ← e2] at h
  generalize an * bd = x at *
  generalize bn * ad = y at *
  rcases sgn_cases x with ⟨a1, a2⟩ | ⟨a1, a2⟩ | ⟨a1, a2⟩ <;> rcases sgn_cases y with ⟨b1, b2⟩ | ⟨b1, b2⟩ | ⟨b1, b2⟩ <;> rw [a2, b2] at h ⊢ <;> rcases sgn_cases (x - y) with ⟨c1, c2⟩ | ⟨c1, c2⟩ | ⟨c1, c2⟩ <;> rw [c2] <;> first | rfl | omega | (exfalso; omega)

theorem cmp_abs (an ad bn bd : Int) (ha : 0 < ad) (hb : 0 < bd) (h : sgn an = sgn bn) (h0 : sgn an ≠ 0) :
    (bn.natAbs * ad.natAbs < an.natAbs * bd.natAbs → sgn an = sgn (an * bd - bn * ad)) ∧ (an.natAbs * bd.natAbs < bn.natAbs * ad.natAbs → -sgn an = sgn (an * bd - bn * ad)) ∧ (an.natAbs * bd.natAbs = bn.natAbs * ad.natAbs → 0 = sgn (an * bd - bn * ad)) := by
  rw [← Int.natAbs_mul, ← Int.natAbs_mul]
  have e1 := sgn_mul_pos an bd hb
  have e2 := sgn_mul_pos bn ad ha
  rw [← e1, ← e2] at h
  rw [← e1] at h0
  rw [← e1]
  generalize an * bd = x at *
  generalize bn * ad = y at *
  rcases sgn_cases x with ⟨a1, a2⟩ | ⟨a1, a2⟩ | ⟨a1, a2⟩ <;> rcases sgn_cases y with ⟨b1, b2⟩ | ⟨b1, b2⟩ | ⟨b1, b2⟩ <;> rw [a2, b2] at h <;> rw [a2] at h0 ⊢ <;> (try (exfalso; omega)) <;> rcases sgn_cases (x - y) with ⟨c1, c2⟩ | ⟨c1, c2⟩ | ⟨c1, c2⟩ <;> rw [c2] <;> (refine ⟨?_, ?_, ?_⟩ <;> intro _ <;> omega)

set_option maxHeartbeats 1000000 in
theorem cmp_err (an ad bn bd : Int) (w : World) (han : I64 an) (had : I64 ad) (hbn : I64 bn) (hbd : I64 bd) (h : Hid (validB an ad = false ∨ (validB an ad = true ∧ validB bn bd = false))) :
    Calls Try.prog 25 #[.agg #[.int .i64 an, .int .i64 ad], .agg #[.int .i64 bn, .int .i64 bd]] w fun e w' => e = .returned (.int .i64 0) ∧ Below w.heap.size w w' := by
  have hS := B2.start w an ad bn bd
  rcases h.out with hva | ⟨hva, hvb⟩
  · have HA := Lib.hid hva
    clear hva h
    go_enter Try.func25, Try.ntmps25
    go_wp2_with fail
    refine (valid_any an ad false HA.out _ han had).mono ?_
    rintro e wa ⟨rfl, hba⟩
    have hbl := (hS.step hba).1
    clear hS hba
    go_wp2
    go_ret
    exact ⟨rfl, hbl⟩
  · have HA := Lib.hid hva
    have HB := Lib.hid hvb
    clear hva hvb h
    go_enter Try.func25, Try.ntmps25
    go_wp2_with fail
    refine (valid_any an ad true HA.out _ han had).mono ?_
    rintro e wa ⟨rfl, hba⟩
    replace hS := hS.step hba
    obtain ⟨k1, k2, k3, k4⟩ := hS.cells
    clear hba
    go_wp2_with fail
    clear k1 k2 k3 k4
    refine (valid_any bn bd false HB.out _ hbn hbd).mono ?_
    rintro e wb ⟨rfl, hbb⟩
    have hbl := (hS.step hbb).1
    clear hS hbb
    go_wp2
    go_ret
    exact ⟨rfl, hbl⟩

set_option maxHeartbeats 2000000 in
theorem cmp_ok (an : Int) (ad : Nat) (bn : Int) (bd : Nat) (w : World) (han : I64 an) (had : I64 ad) (hbn : I64 bn) (hbd : I64 bd) (HA : Hid (validB an ad = true)) (HB : Hid (validB bn bd = true)) :
    Calls Try.prog 25 #[.agg #[.int .i64 an, .int .i64 ad], .agg #[.int .i64 bn, .int .i64 bd]] w fun e w' => e = .returned (.int .i64 (sgn (an * bd - bn * ad))) ∧ Below w.heap.size w w' := by
  have hS := B2.start w an ad bn bd
  obtain ⟨a1, a2, a3, a4, a5⟩ := validB_true HA.out
  obtain ⟨b1, b2, b3, b4, b5⟩ := validB_true HB.out
  clear a5 b5
  have hwa := u64_id ad (by omega)
  have hwb := u64_id bd (by omega)
  obtain ⟨s, hs⟩ : ∃ s, s = sgn an := ⟨_, rfl⟩
  obtain ⟨t, ht⟩ : ∃ t, t = sgn bn := ⟨_, rfl⟩
  have SA := Lib.hid (fun wx => sign_q an wx)
  have SB := Lib.hid (fun wx => sign_q bn wx)
  have MA := Lib.hid (fun wx => magnitude_q an wx (by omega))
  have MB := Lib.hid (fun wx => magnitude_q bn wx (by omega))
  rw [← hs] at SA
  rw [← ht] at SB
  have hsb : -1 ≤ s ∧ s ≤ 1 := by rw [hs]; rcases sgn_cases an with ⟨_, h⟩ | ⟨_, h⟩ | ⟨_, h⟩ <;> rw [h] <;> omega
  have htb : -1 ≤ t ∧ t ≤ 1 := by rw [ht]; rcases sgn_cases bn with ⟨_, h⟩ | ⟨_, h⟩ | ⟨_, h⟩ <;> rw [h] <;> omega
  obtain ⟨hs1, hs2⟩ := hsb
  obtain ⟨ht1, ht2⟩ := htb
  have HS := Lib.hid hs; have HT := Lib.hid ht
  clear hs ht
  obtain ⟨X, hX⟩ : ∃ X, X = an.natAbs * bd := ⟨_, rfl⟩
  obtain ⟨Y, hY⟩ : ∃ Y, Y = bn.natAbs * ad := ⟨_, rfl⟩
  obtain ⟨h, hh⟩ : ∃ h, h = X / 18446744073709551616 := ⟨_, rfl⟩
  obtain ⟨l, hl⟩ : ∃ l, l = X % 18446744073709551616 := ⟨_, rfl⟩
  obtain ⟨i, hi⟩ : ∃ i, i = Y / 18446744073709551616 := ⟨_, rfl⟩
  obtain ⟨k, hk⟩ : ∃ k, k = Y % 18446744073709551616 := ⟨_, rfl⟩
  have M1 := Lib.hid (fun wx => mul64_c an.natAbs bd h l (by omega) (by omega) (by rw [hh, hX]) (by rw [hl, hX]) wx)
  have M2 := Lib.hid (fun wx => mul64_c bn.natAbs ad i k (by omega) (by omega) (by rw [hi, hY]) (by rw [hk, hY]) wx)
  have hlt : Hid ((i < h ∨ (i = h ∧ k < l) → Y < X) ∧ (h < i ∨ (h = i ∧ l < k) → X < Y) ∧ (h = i → l = k → X = Y)) := by
    show _ ∧ _ ∧ _
    refine ⟨?_, ?_, ?_⟩ <;> intros <;> omega
  have hle : Hid (h < 18446744073709551616 ∧ i < 18446744073709551616 ∧ l < 18446744073709551616 ∧ k < 18446744073709551616) := by
    show _ ∧ _ ∧ _ ∧ _
    have h1 : X < 18446744073709551616 * 18446744073709551616 := by
      rw [hX]; exact Nat.mul_lt_mul'' (by omega) (by omega)
    have h2 : Y < 18446744073709551616 * 18446744073709551616 := by
      rw [hY]; exact Nat.mul_lt_mul'' (by omega) (by omega)
    omega
  have CA := Lib.hid (cmp_abs an ad bn bd (by omega) (by omega))
  have CS := Lib.hid (cmp_signs an ad bn bd (by omega) (by omega))
  rw [← HS.out, ← HT.out] at CA CS
  rw [Int.natAbs_natCast, Int.natAbs_natCast, ← hX, ← hY] at CA
  clear hh hl hi hk hX hY
  obtain ⟨R, hR⟩ : ∃ R, R = sgn (an * bd - bn * ad) := ⟨_, rfl⟩
  rw [← hR] at CA CS
  rw [← hR]
  clear hR
  go_enter Try.func25, Try.ntmps25
  go_wp2_with fail
  refine (valid_any an ad true HA.out _ han had).mono ?_
  rintro e wa ⟨rfl, hba⟩
  replace hS := hS.step hba
  obtain ⟨k1, k2, k3, k4⟩ := hS.cells
  clear hba
  go_wp2_with fail
  clear k1 k2 k3 k4
  refine (valid_any bn bd true HB.out _ hbn hbd).mono ?_
  rintro e wb ⟨rfl, hbb⟩
  replace hS := hS.step hbb
  obtain ⟨k1, k2, k3, k4⟩ := hS.cells
  have hbl := hS.1
  clear hbb hS
  go_wp2
  go_quiet ((first
    | (go_at_call 49; exact Calls.quiet_of_same (SA.out _))
    | (go_at_call 49; exact Calls.quiet_of_same (SB.out _))))
  have q1 : (wb.drewN nq).cell? ⟨w.heap.size, 0, none⟩ = some (.int .i64 an) := k1
  have q2 : (wb.drewN nq).cell? ⟨w.heap.size, 1, none⟩ = some (.int .i64 ad) := k2
  have q3 : (wb.drewN nq).cell? ⟨w.heap.size + 1, 0, none⟩ = some (.int .i64 bn) := k3
  have q4 : (wb.drewN nq).cell? ⟨w.heap.size + 1, 1, none⟩ = some (.int .i64 bd) := k4
  have q5 : Below w.heap.size w (wb.drewN nq) := below_drewN hbl nq
  clear k1 k2 k3 k4 hbl
  obtain ⟨wc, hwc⟩ : ∃ x, x = wb.drewN nq := ⟨_, rfl⟩
  rw [← hwc] at q1 q2 q3 q4 q5
  rw [← hwc]
  clear hwc
  have k1 := q1; have k2 := q2; have k3 := q3; have k4 := q4; have hbl := q5
  clear q1 q2 q3 q4 q5
  by_cases hcase : s ≠ t ∨ s = 0
  · have HR := Lib.hid (CS.out hcase)
    clear CA CS M1 M2 SA SB MA MB
    rcases Classical.em (s = t) with hst | hst
    · have hs0 : s = 0 := by rcases hcase with h | h; exact (h hst).elim; exact h
      have e1 : (s != t) = false := by simpa using hst
      have e2 : (s == 0) = true := by simpa using hs0
      clear hcase hst hs0
      go_wp2_with fail
      refine (sign_any _ _).mono ?_
      rintro e w3 ⟨rfl, rfl⟩
      go_wp2
      go_ret
      exact ⟨congrArg (fun x => Ending.returned (Value.int .i64 x)) HR.out, by repeat (first | exact hbl | refine below_drewN ?_ _)⟩
    · have e1 : (s != t) = true := by simpa using hst
      clear hcase hst
      go_wp2_with fail
      refine (sign_any _ _).mono ?_
      rintro e w3 ⟨rfl, rfl⟩
      go_wp2
      go_ret
      exact ⟨congrArg (fun x => Ending.returned (Value.int .i64 x)) HR.out, by repeat (first | exact hbl | refine below_drewN ?_ _)⟩
  · have hst : s = t := by omega
    have hs0 : s ≠ 0 := by omega
    have e1 : (s != t) = false := by simpa using hst
    have e2 : (s == 0) = false := by simpa using hs0
    obtain ⟨c1, c2, c3⟩ := CA.out hst hs0
    have C1 := Lib.hid c1; have C2 := Lib.hid c2; have C3 := Lib.hid c3
    clear hcase hst hs0 c1 c2 c3 CA CS SA SB
    go_wp2
    go_quiet ((first
      | (go_at_call 51; exact Calls.quiet_of_same (MA.out _))
      | (go_at_call 51; exact Calls.quiet_of_same (MB.out _))
      | (go_at_call 50; exact Calls.quiet_of_same (M1.out _))))
    have q1 : (wc.drewN nq).cell? ⟨w.heap.size, 0, none⟩ = some (.int .i64 an) := k1
    have q2 : (wc.drewN nq).cell? ⟨w.heap.size, 1, none⟩ = some (.int .i64 ad) := k2
    have q3 : (wc.drewN nq).cell? ⟨w.heap.size + 1, 0, none⟩ = some (.int .i64 bn) := k3
    have q4 : (wc.drewN nq).cell? ⟨w.heap.size + 1, 1, none⟩ = some (.int .i64 bd) := k4
    have q5 : Below w.heap.size w (wc.drewN nq) := below_drewN hbl nq
    clear k1 k2 k3 k4 hbl
    obtain ⟨wd, hwd⟩ : ∃ x, x = wc.drewN nq := ⟨_, rfl⟩
    rw [← hwd] at q1 q2 q3 q4 q5
    rw [← hwd]
    clear hwd
    have k1 := q1; have k2 := q2; have k3 := q3; have k4 := q4; have hbl := q5
    clear q1 q2 q3 q4 q5
    go_wp2
    go_quiet ((first
      | (go_at_call 51; exact Calls.quiet_of_same (MB.out _))
      | (go_at_call 50; exact Calls.quiet_of_same (M2.out _))))
    clear M1 M2 MA MB k1 k2 k3 k4
    rcases Nat.lt_trichotomy h i with hhi | hhi | hhi
    · have t1 : decide ((i : Int) < (h : Int)) = false := by simp; omega
      have t2 : ((h : Int) == (i : Int)) = false := by simp; omega
      have t3 : decide ((h : Int) < (i : Int)) = true := by simp; omega
      have HR := Lib.hid (C2.out (hlt.out.2.1 (.inl hhi)))
      go_wp2
      go_ret
      exact ⟨congrArg (fun x => Ending.returned (Value.int .i64 x)) HR.out, by repeat (first | exact hbl | refine below_drewN ?_ _)⟩
    · have t1 : decide ((i : Int) < (h : Int)) = false := by simp; omega
      have t2 : ((h : Int) == (i : Int)) = true := by simp; omega
      have t3 : decide ((h : Int) < (i : Int)) = false := by simp; omega
      rcases Nat.lt_trichotomy l k with hlk | hlk | hlk
      · have t4 : decide ((k : Int) < (l : Int)) = false := by simp; omega
        have t5 : decide ((l : Int) < (k : Int)) = true := by simp; omega
        have HR := Lib.hid (C2.out (hlt.out.2.1 (.inr ⟨hhi, hlk⟩)))
        have hh1 : h ≤ i := by omega
        have hh2 : i ≤ h := by omega
        clear hhi
        go_wp2
        go_ret
        exact ⟨congrArg (fun x => Ending.returned (Value.int .i64 x)) HR.out, by repeat (first | exact hbl | refine below_drewN ?_ _)⟩
      · have t4 : decide ((k : Int) < (l : Int)) = false := by simp; omega
        have t5 : decide ((l : Int) < (k : Int)) = false := by simp; omega
        have HR := Lib.hid (C3.out (hlt.out.2.2 hhi hlk))
        have hh1 : h ≤ i := by omega
        have hh2 : i ≤ h := by omega
        have hh3 : l ≤ k := by omega
        have hh4 : k ≤ l := by omega
        clear hhi hlk
        go_wp2
        go_ret
        exact ⟨congrArg (fun x => Ending.returned (Value.int .i64 x)) HR.out, by repeat (first | exact hbl | refine below_drewN ?_ _)⟩
      · have t4 : decide ((k : Int) < (l : Int)) = true := by simp; omega
        have HR := Lib.hid (C1.out (hlt.out.1 (.inr ⟨hhi.symm, hlk⟩)))
        have hh1 : h ≤ i := by omega
        have hh2 : i ≤ h := by omega
        clear hhi
        go_wp2
        go_ret
        exact ⟨congrArg (fun x => Ending.returned (Value.int .i64 x)) HR.out, by repeat (first | exact hbl | refine below_drewN ?_ _)⟩
    · have t1 : decide ((i : Int) < (h : Int)) = true := by simp; omega
      have HR := Lib.hid (C1.out (hlt.out.1 (.inl hhi)))
      go_wp2
      go_ret
      exact ⟨congrArg (fun x => Ending.returned (Value.int .i64 x)) HR.out, by repeat (first | exact hbl | refine below_drewN ?_ _)⟩

theorem cmp_ratio (an ad bn bd : Int) (w : World) (han : I64 an) (had : I64 ad) (hbn : I64 bn) (hbd : I64 bd) :
    Calls Try.prog 25 #[.agg #[.int .i64 an, .int .i64 ad], .agg #[.int .i64 bn, .int .i64 bd]] w fun e w' => e = .returned (.int .i64 (cmpS an ad bn bd)) ∧ Below w.heap.size w w' := by
  rcases Bool.eq_false_or_eq_true (validB an ad) with hva | hva
  · rcases Bool.eq_false_or_eq_true (validB bn bd) with hvb | hvb
    · obtain ⟨a1, _⟩ := validB_true hva
      obtain ⟨b1, _⟩ := validB_true hvb
      obtain ⟨x, rfl⟩ : ∃ x : Nat, ad = x := ⟨ad.toNat, by omega⟩
      obtain ⟨y, rfl⟩ : ∃ y : Nat, bd = y := ⟨bd.toNat, by omega⟩
      have e : cmpS an x bn y = sgn (an * y - bn * x) := by unfold cmpS; rw [hva, hvb]; rfl
      rw [e]; exact cmp_ok an x bn y w han had hbn hbd hva hvb
    · have e : cmpS an ad bn bd = 0 := by unfold cmpS; rw [hva, hvb]; rfl
      rw [e]; exact cmp_err an ad bn bd w han had hbn hbd (.inr ⟨hva, hvb⟩)
  · have e : cmpS an ad bn bd = 0 := by unfold cmpS; rw [hva]; rfl
    rw [e]; exact cmp_err an ad bn bd w han had hbn hbd (.inl hva)

end Go.Proofs.Ytpjjbdpkhmeldaa
