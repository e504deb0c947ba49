/- contracts of the small functions of ratio -/
import Derived.Test.YtpjjbdpkhmeldaaDoorB0
namespace Go.Proofs.YtpjjbdpkhmeldaaDoor
open Go.RowKit

def sgn (n : Int) : Int := if n < 0 then -1 else if 0 < n then 1 else 0

set_option maxHeartbeats 400000 in
theorem sign_any (n : Int) (w : World) :
    Calls Tryd.prog 38 #[.int .i64 n] w fun e w' => e = .returned (.int .i64 (sgn n)) ∧ w = w' := by
  go_enter Tryd.func38, Tryd.ntmps38
  go_wp2
  all_goals (go_ret; refine ⟨?_, rfl⟩; simp only [sgn])
  · rw [if_pos ‹_›]; rfl
  · rw [if_neg (by omega), if_pos ‹_›]; rfl
  · rw [if_neg (by omega), if_neg (by omega)]; rfl

theorem u64_neg (n : Int) (h1 : -9223372036854775808 ≤ n) (h : n < 0) : IntKind.u64.wrap (-IntKind.u64.wrap n) = (n.natAbs : Int) := by
  simp [IntKind.wrap, IntKind.bits, IntKind.signed]; omega

set_option maxHeartbeats 400000 in
theorem magnitude_any (n : Int) (w : World) (h : -9223372036854775808 ≤ n ∧ n ≤ 9223372036854775807) :
    Calls Tryd.prog 29 #[.int .i64 n] w fun e w' => e = .returned (.int .u64 (n.natAbs : Int)) ∧ w = w' := by
  go_enter Tryd.func29, Tryd.ntmps29
  go_wp2
  · go_ret
    refine ⟨?_, rfl⟩
    exact congrArg (fun x => Ending.returned (Value.int .u64 x)) (u64_neg n h.1 ‹_›)
  · go_ret
    refine ⟨?_, rfl⟩
    exact congrArg (fun x => Ending.returned (Value.int .u64 x)) (by omega)

/-- trim, of a list of digits -/
theorem trim_ds (a : Option Addr) (cap : Nat) (zs : List Nat) (w : World) (hl : zs.length ≤ 1000000) (hcap : zs.length ≤ cap) (h : RdN w .u32 a zs) :
    Calls Tryd.prog 36 #[.slice a zs.length cap] w fun e w' => e = .returned (.slice a (trimN zs).length cap) ∧ w = w' := by
  go_enter Tryd.func36, Tryd.ntmps36
  go_wp2
  go_loop [0] (fun v => ∃ n : Nat, n ≤ zs.length ∧ v = .slice a n cap ∧ trimN zs = trimN (zs.take n)) (fun v => slen v)
  case atStart => exact ⟨zs.length, by omega, rfl, by simp⟩
  case round =>
    obtain ⟨n, hn, rfl, ht⟩ := hrel
    have Ht := Lib.hid ht; clear ht
    by_cases h0 : 0 < n
    · obtain ⟨m, rfl⟩ : ∃ m, n = m + 1 := ⟨n - 1, by omega⟩
      obtain ⟨b, off, rfl, hb, hc⟩ := h m (by omega)
      clear h0
      obtain ⟨z, hz⟩ : ∃ z, z = zs[m] := ⟨_, rfl⟩
      rw [← hz] at hc
      have Hz := Lib.hid hz; clear hz
      by_cases hz : z = 0
      · subst hz
        go_wp2
        go_round
        case rel => exact ⟨m, by omega, rfl, by rw [Ht.out, List.take_succ_eq_append_getElem (by omega), ← Hz.out, trimN_append_zero]⟩
        case measure => simp [slen]
      · have hz' : ((z : Int) == 0) = false := by simpa using hz
        go_wp2
        go_ret
        refine ⟨?_, rfl⟩
        rw [Ht.out, List.take_succ_eq_append_getElem (by omega), ← Hz.out, trimN_append_pos _ _ hz]
        simp [Nat.min_eq_left (show m ≤ zs.length by omega)]
    · obtain rfl : n = 0 := by omega
      go_wp2
      go_ret
      refine ⟨?_, rfl⟩
      rw [Ht.out]; simp [trimN_nil]

def cmpN (m n : Nat) : Int := if m < n then -1 else if n < m then 1 else 0

def W32 : Nat := 4294967296
theorem W32_ge : 2 ≤ W32 := by unfold W32; omega
theorem digs_lt32 (n : Nat) (d : Nat) (h : d ∈ digs W32 n) : d < 4294967296 := digs_lt W32 W32_ge n d h

/-- equal from i on, less at i - 1 : less -/
theorem val_lt_of (B : Nat) (hB : 2 ≤ B) (xs ys : List Nat) (ha : ∀ d ∈ xs, d < B) (i : Nat) (hi : i < xs.length) (hl : xs.length = ys.length)
    (hd : xs.drop (i + 1) = ys.drop (i + 1)) (h : xs[i] < ys[i]) : val B xs < val B ys := by
  have e1 : xs = xs.take (i+1) ++ xs.drop (i+1) := by simp
  have e2 : ys = ys.take (i+1) ++ ys.drop (i+1) := by simp
  have hv := val_lt B hB (xs.take i) (fun d hd => ha d (List.mem_of_mem_take hd))
  rw [List.length_take, Nat.min_eq_left (by omega)] at hv
  rw [e1, e2, val_append, val_append, hd, val_take_succ B xs i hi, val_take_succ B ys i (by omega), List.length_take, List.length_take, hl]
  have : (xs[i] + 1) * B ^ i ≤ ys[i] * B ^ i := Nat.mul_le_mul_right _ h
  rw [Nat.add_mul] at this
  omega

theorem cmpN_lt {m n : Nat} (h : m < n) : cmpN m n = -1 := if_pos h
theorem cmpN_gt {m n : Nat} (h : n < m) : cmpN m n = 1 := by unfold cmpN; rw [if_neg (by omega), if_pos h]
theorem cmpN_eq (n : Nat) : cmpN n n = 0 := by unfold cmpN; rw [if_neg (by omega), if_neg (by omega)]

set_option maxHeartbeats 1000000 in
theorem cmp_ne (va vb : Value) (m n : Nat) (w : World) (ha : NatV w .u32 W32 va m) (hb : NatV w .u32 W32 vb n) (hma : (digs W32 m).length ≤ 1000000) (hmb : (digs W32 n).length ≤ 1000000)
    (hne : (digs W32 m).length ≠ (digs W32 n).length) :
    Calls Tryd.prog 20 #[va, vb] w fun e w' => e = .returned (.int .i64 (cmpN m n)) ∧ Below w.heap.size w w' := by
  obtain ⟨aa, ca, rfl, hca, ra⟩ := ha
  obtain ⟨ab, cb, rfl, hcb, rb⟩ := hb
  have h2 : sgn (((digs W32 m).length : Int) - ((digs W32 n).length : Int)) = cmpN m n := by
    rcases Nat.lt_or_gt_of_ne hne with h | h
    · rw [cmpN_lt (lt_of_digs W32 W32_ge m n h)]; unfold sgn; rw [if_pos (by omega)]
    · rw [cmpN_gt (lt_of_digs W32 W32_ge n m h)]; unfold sgn; rw [if_neg (by omega), if_pos (by omega)]
  have H2 := Lib.hid h2; clear h2
  generalize digs W32 m = xs at *
  generalize digs W32 n = ys at *
  have hb : ((xs.length : Int) != (ys.length : Int)) = true := by simp; omega
  clear hne
  go_enter Tryd.func20, Tryd.ntmps20
  go_wp2_with (go_at_call 38; refine (sign_any _ _).mono ?_; rintro e w' ⟨rfl, rfl⟩)
  go_ret
  exact ⟨congrArg (fun x => Ending.returned (Value.int .i64 x)) H2.out, Below.refl _ _⟩

set_option maxHeartbeats 1000000 in
theorem cmp_eq (va vb : Value) (m n : Nat) (w : World) (ha : NatV w .u32 W32 va m) (hb : NatV w .u32 W32 vb n) (hma : (digs W32 m).length ≤ 1000000)
    (hl : (digs W32 m).length = (digs W32 n).length) :
    Calls Tryd.prog 20 #[va, vb] w fun e w' => e = .returned (.int .i64 (cmpN m n)) ∧ Below w.heap.size w w' := by
  obtain ⟨aa, ca, rfl, hca, ra⟩ := ha
  obtain ⟨ab, cb, rfl, hcb, rb⟩ := hb
  have va := val_digs W32 W32_ge m
  have vb := val_digs W32 W32_ge n
  have la := digs_lt32 m
  have lb := digs_lt32 n
  generalize digs W32 m = xs at *
  generalize digs W32 n = ys at *
  have VA := Lib.hid va; have VB := Lib.hid vb; have LA := Lib.hid la; have LB := Lib.hid lb; have HL := Lib.hid hl
  have hne : ((xs.length : Int) != (ys.length : Int)) = false := by simp; omega
  have hl1 : xs.length ≤ ys.length := by omega
  have hl2 : ys.length ≤ xs.length := by omega
  clear va vb la lb hl
  go_enter Tryd.func20, Tryd.ntmps20
  go_wp2
  go_loopw [5] (fun v wr => ∃ i : Nat, i ≤ xs.length ∧ v = .int .i64 ((i : Int) - 1) ∧ xs.drop i = ys.drop i ∧ Below w.heap.size w wr) (fun v _ => (intOf v + 1).toNat)
  case atStart => exact ⟨xs.length, by omega, rfl, by rw [List.drop_eq_nil_of_le (by omega), List.drop_eq_nil_of_le (by omega)], Below.refl _ _⟩
  case round =>
    obtain ⟨i, hi, rfl, hd, hbl⟩ := hrel
    have HD := Lib.hid hd; clear hd
    cases i with
    | zero =>
      go_wp2
      go_ret
      refine ⟨?_, hbl⟩
      have h1 := HD.out
      rw [List.drop_zero, List.drop_zero] at h1
      have h2 := VA.out; have h3 := VB.out
      rw [h1, h3] at h2; subst h2
      exact congrArg (fun x => Ending.returned (Value.int .i64 x)) (cmpN_eq n).symm
    | succ i =>
      obtain ⟨b1, o1, rfl, hb1, hc1⟩ := ra i (by omega)
      obtain ⟨b2, o2, rfl, hb2, hc2⟩ := rb i (by omega)
      rw [← hbl.cell (p := ⟨b1, o1 + i, none⟩) hb1] at hc1
      rw [← hbl.cell (p := ⟨b2, o2 + i, none⟩) hb2] at hc2
      have Lt := @val_lt_of W32 W32_ge xs ys LA.out i (by omega) HL.out HD.out
      have Gt := @val_lt_of W32 W32_ge ys xs LB.out i (by omega) HL.out.symm HD.out.symm
      rw [VA.out, VB.out] at Lt Gt
      have HLt := Lib.hid Lt; have HGt := Lib.hid Gt; clear Lt Gt
      have hdr : xs[i] = ys[i] → xs.drop i = ys.drop i := by
        intro h
        rw [List.drop_eq_getElem_cons (by omega), List.drop_eq_getElem_cons (by omega : i < ys.length), h, HD.out]
      have HDr := Lib.hid hdr; clear hdr
      generalize xs[i] = x at *
      generalize ys[i] = y at *
      rw [show (((i + 1 : Nat) : Int) - 1) = (i : Int) from by omega]
      rcases Nat.lt_trichotomy x y with h | h | h
      · go_wp2
        go_quiet (fail)
        go_wp2
        go_ret
        refine ⟨?_, by first | exact hbl.drewN _ | exact below_drewN hbl _⟩
        rw [cmpN_lt (HLt.out h)]; rfl
      · subst h
        go_wp2
        go_quiet (fail)
        go_wp2
        go_quiet (fail)
        go_wp2
        go_roundw
        case rel => exact ⟨i, by omega, by go_num, (by first | exact HDr.out rfl | exact HDr.out trivial), below_drewN hbl _⟩
        case measure => simp [intOf]
      · go_wp2
        go_quiet (fail)
        go_wp2
        go_quiet (fail)
        go_wp2
        go_ret
        refine ⟨?_, below_drewN (below_drewN hbl _) _⟩
        rw [cmpN_gt (HGt.out h)]; rfl

end Go.Proofs.YtpjjbdpkhmeldaaDoor
