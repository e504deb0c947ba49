/- contract of the reference's read -/
import Derived.Test.YtpjjbdpkhmeldaaDoorT5
namespace Go.Proofs.YtpjjbdpkhmeldaaDoor
open Go.RowKit

theorem readV_lenR (l : List UInt8) (h : l.all isDig = true) (hl : l.length ≤ 60) : (digs R15 (readV l)).length ≤ 14 := by
  refine digs_length_le R15 R15_ge _ 14 ?_
  have h1 := readV_lt l h
  have h2 : 10 ^ l.length ≤ 10 ^ 60 := Nat.pow_le_pow_right (by omega) hl
  have h3 : (10 : Nat) ^ 60 < R15 ^ 14 := by decide +kernel
  omega

/-- the region that takes in one digit more, in whatever order -/
def RdF (w : World) (v0 : Value) (n : Nat) (s : ByteArray) (k d : Nat) (D : Nat → Bool) (V : Nat → Value) (w' : World) : Prop :=
  Below w.heap.size w w' ∧ NatV w' .i64 R15 v0 n ∧ (D 0 = true → V 21 = v0) ∧ (D 1 = true → NatV w' .i64 R15 (V 22) 10) ∧ (D 2 = true → NatV w' .i64 R15 (V 23) (n * 10)) ∧
  (D 3 = true → V 24 = .string s) ∧ (D 4 = true → V 25 = .int .i64 k) ∧ (D 5 = true → V 26 = .int .u8 ((d + 48 : Nat) : Int)) ∧ (D 6 = true → V 27 = .int .u8 (d : Int)) ∧ (D 7 = true → V 28 = .int .i64 (d : Int)) ∧
  (D 8 = true → ∃ b, V 29 = .slice (some ⟨b, 0, none⟩) 1 1 ∧ RdN w' .i64 (some ⟨b, 0, none⟩) [d]) ∧ (D 9 = true → NatV w' .i64 R15 (V 30) d) ∧ (D 10 = true → NatV w' .i64 R15 (V 31) (n * 10 + d)) ∧
  (D 11 = true → NatV w' .i64 R15 (V 3) (n * 10 + d)) ∧ (D 0 = false → V 3 = v0) ∧ (D 2 = true → D 0 = true) ∧ (D 10 = true → D 0 = true)

theorem trimN_one (d : Nat) (h : d < 32768) : trimN [d] = digs R15 d := by
  rcases Nat.eq_zero_or_pos d with rfl | h0
  · rw [digs_zero]; rfl
  · rw [digs_pos R15 d R15_ge h0]
    have e1 : d % R15 = d := Nat.mod_eq_of_lt (by unfold R15; omega)
    have e2 : d / R15 = 0 := Nat.div_eq_of_lt (by unfold R15; omega)
    rw [e1, e2, digs_zero]
    have hb : (d == 0) = false := beq_eq_false_iff_ne.2 (by omega)
    show ([d].dropWhile (· == 0)).reverse = [d]
    rw [List.dropWhile_cons, hb]
    rfl

theorem u8sub (d : Nat) (h : d ≤ 9) : IntKind.u8.wrap (((d + 48 : Nat) : Int) - 48) = (d : Int) := by simp [IntKind.wrap, IntKind.signed, IntKind.bits]; omega
theorem i64of (d : Nat) (h : d ≤ 9) : IntKind.i64.wrap (d : Int) = (d : Int) := by simp [IntKind.wrap, IntKind.signed, IntKind.bits]; omega
theorem readN_bad {l : List UInt8} {b : UInt8} (hb : b ∈ l) (h : isDig b = false) : readN l = 0 := by
  unfold readN
  have : l.all isDig = false := by
    rw [List.all_eq_false]
    exact ⟨b, hb, by rw [h]; simp⟩
  rw [this]; rfl

set_option maxHeartbeats 4000000 in
theorem rread_any (s : ByteArray) (w : World) (hl : s.size ≤ 60) :
    Calls Tryd.prog 23 #[.string s] w fun e w' => ∃ v, e = .returned v ∧ NatV w' .i64 R15 v (readN s.data.toList) ∧ Below w.heap.size w w' := by
  go_enter Tryd.func23, Tryd.ntmps23
  go_wp2
  go_loopw [3, 4] (fun s3 s4 wr => ∃ k : Nat, k ≤ s.size ∧ s4 = .int .i64 k ∧ NatV wr .i64 R15 s3 (readV (s.data.toList.take k)) ∧ Below w.heap.size w wr ∧ Hid ((s.data.toList.take k).all isDig = true)) (fun _ s4 _ => s.size - (intOf s4).toNat)
  case atStart => exact ⟨0, by omega, rfl, NatV.zeroR _, Below.refl _ _, Lib.hid rfl⟩
  case round =>
    obtain ⟨k, hk, rfl, hS, hB, HD⟩ := hrel
    by_cases hlt : k < s.size
    · have hts := take_succS s k hlt
      have hmem := mem_at s k hlt
      have hdg := isDig_iff s[k]
      obtain ⟨c, hc⟩ : ∃ c, s[k].toNat = c := ⟨_, rfl⟩
      rw [hc] at hdg
      by_cases hd : 48 ≤ c ∧ c ≤ 57
      · obtain ⟨d, rfl⟩ : ∃ d, c = d + 48 := ⟨c - 48, by omega⟩
        have hd9 : d ≤ 9 := by omega
        have hnx : readV (s.data.toList.take (k + 1)) = readV (s.data.toList.take k) * 10 + d := by rw [hts, readV_snoc, hc]; omega
        have HDN : Hid ((s.data.toList.take (k + 1)).all isDig = true) := Lib.hid (by rw [hts, List.all_append, HD.out]; simp [hdg.2 hd])
        have hl14 := readV_lenR _ HD.out (by rw [List.length_take]; omega)
        have HNX := Lib.hid hnx
        clear hts hmem hdg hnx
        obtain ⟨n, hn⟩ : ∃ n, n = readV (s.data.toList.take k) := ⟨_, rfl⟩
        rw [← hn] at hS hl14 HNX
        clear hn
        obtain ⟨a1, c1, e1⟩ := hS.shape
        subst e1
        have t1 : decide (((d + 48 : Nat) : Int) < 48) = false := by simp; omega
        have t2 : decide ((57 : Int) < ((d + 48 : Nat) : Int)) = false := by simp; omega
        have hml := digs_length_mul R15 R15_ge n 10
        have h10l : (digs R15 10).length = 1 := by decide +kernel
        have hdl : (digs R15 d).length ≤ 1 := digs_length_le R15 R15_ge _ 1 (by unfold R15; omega)
        have CM := Lib.hid (fun va vb wx h1 h2 => rmul_any va vb n 10 wx h1 h2 (by omega) (by omega))
        have CA := Lib.hid (fun va vb wx h1 h2 => radd_any va vb (n * 10) d wx h1 h2 (by omega) (by omega))
        obtain ⟨L, hL⟩ : ∃ L, L = (digs R15 n).length := ⟨_, rfl⟩
        rw [← hL] at hS
        rw [← hL]
        clear hL hml hl14
        go_upto_region 7 with fail
        refine wp_region_V (by kernel_rfl) [21, 22, 23, 24, 25, 26, 27, 28, 29, 30, 31, 3] (by kernel_rfl) (by intro s hs; simp at hs ⊢; omega) (RdF w (.slice a1 L c1) n s k d) ?_ ?_ ?_
        · exact ⟨hB.drew, hS, by simp, by simp, by simp, by simp, by simp, by simp, by simp, by simp, by simp, by simp, by simp, by simp, fun _ => rfl, by simp, by simp⟩
        · intro i o D V w' ho hF hDi hpre hV
          obtain ⟨f0, f1, f2, f3, f4, f5, f6, f7, f8, f9, f10, f11, f12, f13, g0, g1, g2⟩ := hF
          have hV0 := hV 0 (by simp)
          have hV4 := hV 4 (by simp)
          simp at hV0 hV4
          rcases i with _ | _ | _ | _ | _ | _ | _ | _ | _ | _ | _ | _ | i
          · simp at ho; subst ho
            have e := g0 hDi
            simp [opRun, execOp, evalV, e, go_sem]
            exact ⟨f0, f1, fun _ => rfl, f3, f4, f5, f6, f7, f8, f9, f10, f11, f12, f13, fun _ => e, fun _ => rfl, fun _ => rfl⟩
          · simp at ho; subst ho
            simp [opRun, execOp, evalV, go_sem]
            have hb : Below w'.heap.size w' (w'.alloc (Obj.cells #[.int .i64 10] 3)) := (Below.refl _ _).alloc (Nat.le_refl _) _
            have n10 := NatV.litR w' 10 (by omega)
            rw [h10l] at n10
            exact ⟨f0.trans (hb.mono f0.size), f1.below hb, f2, fun _ => n10, fun h => (f4 h).below hb, f5, f6, f7, f8, f9, fun h => by obtain ⟨b, x1, x2⟩ := f10 h; exact ⟨b, x1, x2.below hb⟩, fun h => (f11 h).below hb, fun h => (f12 h).below hb, fun h => (f13 h).below hb, g0, g1, g2⟩
          · simp at ho; subst ho
            simp [Region.binds] at hpre
            have d0 : D 0 = true := (by first | exact hpre | exact hpre.1 | exact hpre.2 | exact hpre.2.1 | exact hpre.2.2)
            have d1 : D 1 = true := (by first | exact hpre | exact hpre.1 | exact hpre.2 | exact hpre.2.1 | exact hpre.2.2)
            have e := f2 d0
            have n10 := f3 d1
            simp [opRun, execOp, evalV, e, go_sem]
            refine (CM.out _ _ _ f1 n10).mono ?_
            rintro e w1 ⟨v, rfl, hv, hb⟩
            exact ⟨v, rfl, f0.trans (hb.mono f0.size), f1.below hb, f2, fun h => (f3 h).below hb, fun _ => hv, f5, f6, f7, f8, f9, fun h => by obtain ⟨b, x1, x2⟩ := f10 h; exact ⟨b, x1, x2.below hb⟩, fun h => (f11 h).below hb, fun h => (f12 h).below hb, fun h => (f13 h).below hb, g0, fun _ => d0, g2⟩
          · simp at ho; subst ho
            simp [opRun, execOp, evalV, hV0, go_sem]
            exact ⟨f0, f1, f2, f3, f4, fun _ => rfl, f6, f7, f8, f9, f10, f11, f12, f13, g0, g1, g2⟩
          · simp at ho; subst ho
            simp [opRun, execOp, evalV, hV4, go_sem]
            exact ⟨f0, f1, f2, f3, f4, f5, fun _ => rfl, f7, f8, f9, f10, f11, f12, f13, g0, g1, g2⟩
          · simp at ho; subst ho
            simp [Region.binds] at hpre
            have d3 : D 3 = true := (by first | exact hpre | exact hpre.1 | exact hpre.2 | exact hpre.2.1 | exact hpre.2.2)
            have d4 : D 4 = true := (by first | exact hpre | exact hpre.1 | exact hpre.2 | exact hpre.2.1 | exact hpre.2.2)
            have e := f5 d3
            have e' := f6 d4
            simp [opRun, execOp, evalV, e, e', go_sem, hlt, hc]
            exact ⟨f0, f1, f2, f3, f4, f5, f6, fun _ => rfl, f8, f9, f10, f11, f12, f13, g0, g1, g2⟩
          · simp at ho; subst ho
            simp [Region.binds] at hpre
            have e := f7 (by first | exact hpre | exact hpre.1 | exact hpre.2 | exact hpre.2.1 | exact hpre.2.2)
            have eu : IntKind.u8.wrap (d : Int) = (d : Int) := by simp [IntKind.wrap, IntKind.signed, IntKind.bits]; omega
            simp [opRun, execOp, evalV, e, go_sem, eu]
            exact ⟨f0, f1, f2, f3, f4, f5, f6, f7, fun _ => rfl, f9, f10, f11, f12, f13, g0, g1, g2⟩
          · simp at ho; subst ho
            simp [Region.binds] at hpre
            have e := f8 (by first | exact hpre | exact hpre.1 | exact hpre.2 | exact hpre.2.1 | exact hpre.2.2)
            have eu := i64of d hd9
            simp [opRun, execOp, evalV, e, go_sem, eu]
            exact ⟨f0, f1, f2, f3, f4, f5, f6, f7, f8, fun _ => rfl, f10, f11, f12, f13, g0, g1, g2⟩
          · simp at ho; subst ho
            simp [Region.binds] at hpre
            have e := f9 (by first | exact hpre | exact hpre.1 | exact hpre.2 | exact hpre.2.1 | exact hpre.2.2)
            simp [opRun, execOp, evalV, e, go_sem]
            have hb : Below w'.heap.size w' (w'.alloc (Obj.cells #[.int .i64 (d : Int)] 3)) := (Below.refl _ _).alloc (Nat.le_refl _) _
            exact ⟨f0.trans (hb.mono f0.size), f1.below hb, f2, fun h => (f3 h).below hb, fun h => (f4 h).below hb, f5, f6, f7, f8, f9, fun _ => ⟨w'.heap.size, rfl, fun i hi => by
              obtain rfl : i = 0 := by simp at hi; omega
              exact ⟨_, 0, rfl, by simp, by simp⟩⟩, fun h => (f11 h).below hb, fun h => (f12 h).below hb, fun h => (f13 h).below hb, g0, g1, g2⟩
          · simp at ho; subst ho
            simp [Region.binds] at hpre
            obtain ⟨b, e, hr⟩ := f10 (by first | exact hpre | exact hpre.1 | exact hpre.2 | exact hpre.2.1 | exact hpre.2.2)
            simp [opRun, execOp, evalV, e, go_sem]
            refine (rtrim_ds (some ⟨b, 0, none⟩) 1 [d] w' (by simp) (by simp) hr).mono ?_
            rintro e9 w1 ⟨rfl, rfl⟩
            rw [trimN_one d (by omega)]
            refine ⟨_, rfl, f0, f1, f2, f3, f4, f5, f6, f7, f8, f9, fun _ => ⟨b, e, hr⟩, fun _ => ⟨_, 1, rfl, hdl, ?_⟩, f12, f13, g0, g1, g2⟩
            rcases Nat.eq_zero_or_pos d with h0 | h0
            · subst h0; rw [digs_zero]; intro i hi; simp at hi
            · rw [← trimN_one d (by omega)]
              intro i hi
              have e2 : trimN [d] = [d] := by
                have hb : (d == 0) = false := beq_eq_false_iff_ne.2 (by omega)
                show ([d].dropWhile (· == 0)).reverse = [d]
                rw [List.dropWhile_cons, hb]
                rfl
              simp only [e2] at hi ⊢
              exact hr i hi
          · simp at ho; subst ho
            simp [Region.binds] at hpre
            have d2 : D 2 = true := (by first | exact hpre | exact hpre.1 | exact hpre.2 | exact hpre.2.1 | exact hpre.2.2)
            have d9 : D 9 = true := (by first | exact hpre | exact hpre.1 | exact hpre.2 | exact hpre.2.1 | exact hpre.2.2)
            simp [opRun, execOp, evalV, go_sem]
            refine (CA.out _ _ _ (f4 d2) (f11 d9)).mono ?_
            rintro e w1 ⟨v, rfl, hv, hb⟩
            exact ⟨v, rfl, f0.trans (hb.mono f0.size), f1.below hb, f2, fun h => (f3 h).below hb, fun h => (f4 h).below hb, f5, f6, f7, f8, f9, fun h => by obtain ⟨b, x1, x2⟩ := f10 h; exact ⟨b, x1, x2.below hb⟩, fun h => (f11 h).below hb, fun _ => hv, fun h => (f13 h).below hb, g0, g1, fun _ => g1 d2⟩
          · simp at ho; subst ho
            simp [Region.binds] at hpre
            have d10 : D 10 = true := (by first | exact hpre | exact hpre.1 | exact hpre.2 | exact hpre.2.1 | exact hpre.2.2)
            simp [opRun, execOp, evalV, go_sem]
            exact ⟨f0, f1, f2, f3, f4, f5, f6, f7, f8, f9, f10, f11, f12, fun _ => f12 d10, fun h => (by have h' : D 0 = false := h; have := g2 d10; rw [h'] at this; cases this), g1, g2⟩
          · simp at ho
        · intro D V w' hF hall
          obtain ⟨f0, f1, f2, f3, f4, f5, f6, f7, f8, f9, f10, f11, f12, f13, g0, g1, g2⟩ := hF
          have hv := f13 (hall 11 (by decide))
          obtain ⟨v3, e3⟩ : ∃ v, v = V 3 := ⟨_, rfl⟩
          simp only [putAll, List.foldl_cons, List.foldl_nil, ← e3]
          rw [← e3] at hv
          clear f1 f2 f3 f4 f5 f6 f7 f8 f9 f10 f11 f12 f13 g0 g1 g2 hall e3 hS hB
          go_wp2
          exact ⟨⟨k + 1, by omega, by go_num, by rw [HNX.out]; exact hv, f0, HDN⟩, by simp [intOf]; omega⟩
      · have hnd : isDig s[k] = false := by
          rcases Bool.eq_false_or_eq_true (isDig s[k]) with h | h
          · exact absurd (hdg.1 h) hd
          · exact h
        have hof := readN_bad hmem hnd
        have HOF := Lib.hid hof
        clear hof hnd hdg hmem hts
        by_cases h1 : c < 48
        · have t1 : decide ((c : Int) < 48) = true := by simp; omega
          go_wp2
          (try rw [Exit.noGoto_ret])
          go_ret
          exact ⟨_, rfl, by rw [HOF.out]; exact NatV.zeroR _, hB⟩
        · have t1 : decide ((c : Int) < 48) = false := by simp; omega
          have t2 : decide ((57 : Int) < (c : Int)) = true := by simp; omega
          go_wp2
          (try rw [Exit.noGoto_ret])
          go_ret
          exact ⟨_, rfl, by rw [HOF.out]; exact NatV.zeroR _, hB⟩
    · obtain rfl : k = s.size := by omega
      have hfull : s.data.toList.take s.size = s.data.toList := List.take_of_length_le (by rw [sz_len]; omega)
      rw [hfull] at hS HD
      have HR : Hid (readN s.data.toList = readV s.data.toList) := Lib.hid (by unfold readN; rw [HD.out]; rfl)
      clear hfull
      go_wp2
      go_ret
      exact ⟨_, rfl, by rw [HR.out]; exact hS, hB⟩

end Go.Proofs.YtpjjbdpkhmeldaaDoor
