/- contracts of the reference's natMul, half, bits -/
import Derived.Test.YtpjjbdpkhmeldaaDoorR2
namespace Go.Proofs.YtpjjbdpkhmeldaaDoor
open Go.RowKit

theorem mul_bounds15 {x y : Nat} (hx : x < 32768) (hy : y < 32768) : (x : Int) * (y : Int) ≤ 1073676289 ∧ 0 ≤ (x : Int) * (y : Int) := by
  have : x * y ≤ 32767 * 32767 := Nat.mul_le_mul (by omega) (by omega)
  rw [← Int.natCast_mul]
  omega

set_option maxHeartbeats 2000000 in
theorem rmul_any (va vb : Value) (m n : Nat) (w : World) (ha : NatV w .i64 R15 va m) (hb : NatV w .i64 R15 vb n) (hma : (digs R15 m).length ≤ 100000) (hmb : (digs R15 n).length ≤ 100000) :
    Calls Tryd.prog 42 #[va, vb] w fun e w' => ∃ v, e = .returned v ∧ NatV w' .i64 R15 v (m * n) ∧ Below w.heap.size w w' := by
  obtain ⟨aa, ca, rfl, hca, ra⟩ := ha
  obtain ⟨ab, cb, rfl, hcb, rb⟩ := hb
  have va := val_digs R15 R15_ge m
  have vb := val_digs R15 R15_ge n
  have la := digs_ltR m
  have lb := digs_ltR n
  generalize digs R15 m = xs at *
  generalize digs R15 n = ys at *
  have VA := Lib.hid va; have LA := Lib.hid la
  clear va la
  have VB := Lib.hid vb; have LB := Lib.hid lb
  clear vb lb
  go_enter Tryd.func42, Tryd.ntmps42
  go_wp2_with (first
    | (at_make; refine wpList_make_row _ rfl (.tmp 13) (.tmp 13) 52 rfl 3 .i64 8 (by kernel_rfl) int_type .i64 .i64 _ _ (xs.length + ys.length) rfl rfl (by omega) (by omega) (by omega) (by omega) ?_; intro w1 hB1 hb1 hs1))
  have inv0 : RowI 3 .i64 R15 w w1 w.heap.size (xs.length + ys.length) (fun o => val R15 o = val R15 (xs.take 0) * val R15 ys ∧ ∀ j, 0 + ys.length ≤ j → j < o.length → o[j]? = some 0) :=
    RowI.mk' (Nat.le_refl _) hb1 _ (by simp) (by intro d hd; rw [List.mem_replicate] at hd; unfold R15; omega) ⟨by rw [val_replicate_zero]; simp, by intro j h1 h2; rw [List.length_replicate] at h2; rw [List.getElem?_replicate, if_pos h2]⟩ hB1
  clear hB1 hb1 hs1
  obtain ⟨bo, hbo⟩ : ∃ bo, bo = w.heap.size := ⟨_, rfl⟩
  rw [← hbo] at inv0
  rw [← hbo]
  clear hbo
  go_loopw [6] (fun s6 wr => ∃ i : Nat, i ≤ xs.length ∧ s6 = .int .i64 i ∧ RowI 3 .i64 R15 w wr bo (xs.length + ys.length) (fun o => val R15 o = val R15 (xs.take i) * val R15 ys ∧ ∀ j, i + ys.length ≤ j → j < o.length → o[j]? = some 0)) (fun s6 _ => xs.length - (intOf s6).toNat)
  case atStart => exact ⟨0, by omega, rfl, inv0⟩
  case round =>
    obtain ⟨i, hi, rfl, inv⟩ := hrel
    clear inv0
    by_cases hlt : i < xs.length
    · obtain ⟨b1, o1, rfl, hb1, hc1'⟩ := ra i hlt
      have hx : xs[i] < 32768 := LA.out _ (List.getElem_mem _)
      have hxi : xs[i]? = some xs[i] := List.getElem?_eq_getElem hlt
      generalize xs[i] = x at *
      have HXI := Lib.hid hxi
      clear hxi
      have inv1 := inv.weaken (q := MulP R15 xs ys x i 0 0) (fun o _ _ h => MulP.start h.1 h.2 x)
      obtain ⟨wo, hwo⟩ : ∃ wo : World, wo = wr := ⟨_, rfl⟩
      subst hwo
      go_wp2
      go_loopw [8, 7] (fun s8 s7 wr => ∃ k cy : Nat, k ≤ ys.length ∧ cy < 32768 ∧ s8 = .int .i64 k ∧ s7 = .int .i64 cy ∧ RowI 3 .i64 R15 w wr bo (xs.length + ys.length) (MulP R15 xs ys x i k cy)) (fun s8 _ _ => ys.length - (intOf s8).toNat)
      case atStart => exact ⟨0, 0, by omega, by omega, rfl, rfl, inv1⟩
      case round =>
        obtain ⟨k, cy, hk, hcy, rfl, rfl, inv2⟩ := hrel
        clear inv inv1
        by_cases hlt2 : k < ys.length
        · obtain ⟨d, hd, hcc, hfo, inv3⟩ := inv2.at_ (i + k) (by omega)
          have hbl2 := inv2.below
          have hc1 := (hbl2.cell (p := ⟨b1, o1 + i, none⟩) hb1).trans hc1'
          obtain ⟨b2, o2, rfl, hb2, hc2⟩ := rb k hlt2
          rw [← hbl2.cell (p := ⟨b2, o2 + k, none⟩) hb2] at hc2
          have hy : ys[k] < 32768 := LB.out _ (List.getElem_mem _)
          obtain ⟨m1, m2⟩ := mul_bounds15 hx hy
          have hd' : d < 32768 := hd
          have stp := fun (o : List Nat) (h : MulP R15 xs ys x i k cy o) (h1 : i + k < o.length) (h2 : o[i + k]? = some d) => MulP.step R15_ge h hlt2 h1 h2
          have STP := Lib.hid stp
          clear stp inv2 hbl2
          generalize ys[k] = y at *
          go_wp2
          go_quiet (fail)
          go_wp2
          go_roundw
          case rel =>
            rw [← Int.natCast_mul] at m1
            refine ⟨k + 1, (cy + (x * y + d)) / 32768, by omega, by omega, by go_num, ?_, ?_⟩
            · rw [← Int.natCast_mul]; congr 1; omega
            · refine (inv3.drewN _).set (i + k) ((cy + (x * y + d)) % 32768) _ (by rw [← Int.natCast_mul]; omega) (by unfold R15; omega) (fun o ho _ hp => STP.out o hp.1 (by omega) hp.2)
          case measure => simp [intOf]; omega
        · obtain rfl : k = ys.length := by omega
          obtain ⟨d, hd, hcc, hfo, inv3⟩ := inv2.at_ (i + ys.length) (by omega)
          obtain ⟨o, hol, hod, hp, hob, hbl⟩ := inv2.facts
          have hz := hp.2 (i + ys.length) (Nat.le_refl _) (by omega)
          have hc0 := hob.cell (i + ys.length) (by omega)
          rw [(List.getElem?_eq_some_iff.1 hz).2, hcc] at hc0
          obtain rfl : d = 0 := by simp at hc0; omega
          clear hc0 hz hp hob hol hod hbl
          go_wp2
          go_roundw
          case rel =>
            refine ⟨i + 1, by omega, by go_num, ?_⟩
            exact inv2.set (i + ys.length) cy _ (by omega) (by unfold R15; omega) (fun o ho _ hp => MulP.fin hp HXI.out (by omega))
          case measure => simp [intOf]; omega
    · obtain rfl : i = xs.length := by omega
      obtain ⟨o, hol, hod, ⟨hp1, hp2⟩, hob, hbl⟩ := inv.facts
      have hov : val R15 o = m * n := by
        rw [List.take_length, VA.out, VB.out] at hp1
        exact hp1
      have HOV := Lib.hid hov; have HOD := Lib.hid hod; have HOL := Lib.hid hol
      clear hov hod hp1 hp2 inv
      have hol1 : o.length ≤ xs.length + ys.length := by omega
      clear hol
      go_wp2_with fail
      rw [show xs.length + ys.length = o.length from HOL.out.symm]
      refine (rtrim_ds (some ⟨bo, 0, none⟩) o.length o _ (by omega) (by omega) hob.rd).mono ?_
      rintro e w' ⟨rfl, rfl⟩
      go_wp2
      go_ret
      exact ⟨_, rfl, NatV.of_row R15_ge hob.rd (Nat.le_refl _) HOD.out _ HOV.out, hbl⟩

/-- the digits of half -/
def HfP (xs : List Nat) (k : Nat) (o : List Nat) : Prop := ∀ j, j < k → o[j]? = some (val R15 (xs.drop j) / 2 % R15)

theorem hf_word (xs : List Nat) (k : Nat) (hk : k < xs.length) (y : Nat) (hy : y = xs[k + 1]?.getD 0) :
    (xs[k] / 2 + 16384 * (y % 2)) % 32768 = val R15 (xs.drop k) / 2 % R15 := by
  rw [drop_val R15 xs k hk]
  have hr : ∃ r, val R15 (xs.drop (k + 1)) = y + R15 * r := by
    by_cases h : k + 1 < xs.length
    · refine ⟨val R15 (xs.drop (k + 2)), ?_⟩
      rw [drop_val R15 xs (k + 1) h, hy, List.getElem?_eq_getElem h]; rfl
    · refine ⟨0, ?_⟩
      rw [hy, List.drop_eq_nil_of_le (by omega), List.getElem?_eq_none (by omega)]; rfl
  obtain ⟨r, hr⟩ := hr
  rw [hr]
  unfold R15
  generalize xs[k] = x
  omega

theorem HfP.val {xs : List Nat} {o : List Nat} (hxs : ∀ d ∈ xs, d < 32768) (h : HfP xs xs.length o) (ho : o.length = xs.length) (k : Nat) (hk : k ≤ xs.length) : YtpjjbdpkhmeldaaDoor.val R15 (o.drop (xs.length - k)) = YtpjjbdpkhmeldaaDoor.val R15 (xs.drop (xs.length - k)) / 2 := by
  induction k with
  | zero => rw [List.drop_eq_nil_of_le (by omega), List.drop_eq_nil_of_le (by omega)]; simp
  | succ k ih =>
    have ih := ih (by omega)
    have h1 := h (xs.length - (k + 1)) (by omega)
    rw [List.getElem?_eq_getElem (by omega)] at h1
    rw [drop_val R15 o _ (by omega), Option.some.inj h1, show xs.length - (k + 1) + 1 = xs.length - k from by omega, ih]
    have e := drop_val R15 xs (xs.length - (k + 1)) (by omega)
    rw [show xs.length - (k + 1) + 1 = xs.length - k from by omega] at e
    have hlt : xs[xs.length - (k + 1)]'(by omega) < R15 := hxs _ (List.getElem_mem _)
    have e2 : YtpjjbdpkhmeldaaDoor.val R15 (xs.drop (xs.length - k)) = YtpjjbdpkhmeldaaDoor.val R15 (xs.drop (xs.length - (k + 1))) / R15 := by
      rw [e, Nat.add_mul_div_left _ _ (by unfold R15; omega), Nat.div_eq_of_lt hlt, Nat.zero_add]
    rw [e2]
    have e3 : ∀ A : Nat, A / R15 / 2 = A / 2 / R15 := fun A => by rw [Nat.div_div_eq_div_mul, Nat.div_div_eq_div_mul, Nat.mul_comm]
    rw [e3]
    exact Nat.mod_add_div _ _

set_option maxHeartbeats 1000000 in
theorem rhalf_any (va : Value) (m : Nat) (w : World) (ha : NatV w .i64 R15 va m) (hma : (digs R15 m).length ≤ 100000) :
    Calls Tryd.prog 61 #[va] w fun e w' => ∃ v, e = .returned v ∧ NatV w' .i64 R15 v (m / 2) ∧ Below w.heap.size w w' := by
  obtain ⟨aa, ca, rfl, hca, ra⟩ := ha
  have va := val_digs R15 R15_ge m
  have la := digs_ltR m
  generalize digs R15 m = xs at *
  have VA := Lib.hid va; have LA := Lib.hid la
  clear va la
  go_enter Tryd.func61, Tryd.ntmps61
  go_wp2_with (first
    | (at_make; refine wpList_make_row _ rfl (.tmp 6) (.tmp 6) 52 rfl 3 .i64 8 (by kernel_rfl) int_type .i64 .i64 _ _ xs.length rfl rfl rfl rfl (by omega) (by omega) ?_; intro w1 hB1 hb1 hs1))
  have inv0 : RowI 3 .i64 R15 w w1 w.heap.size xs.length (HfP xs 0) := RowI.mk' (Nat.le_refl _) hb1 _ (by simp) (by intro d hd; rw [List.mem_replicate] at hd; unfold R15; omega) (by intro j hj; omega) hB1
  clear hB1 hb1 hs1
  obtain ⟨bo, hbo⟩ : ∃ bo, bo = w.heap.size := ⟨_, rfl⟩
  rw [← hbo] at inv0
  rw [← hbo]
  clear hbo
  go_loopw [4] (fun s4 wr => ∃ k : Nat, k ≤ xs.length ∧ s4 = .int .i64 k ∧ RowI 3 .i64 R15 w wr bo xs.length (HfP xs k)) (fun s4 _ => xs.length - (intOf s4).toNat)
  case atStart => exact ⟨0, by omega, rfl, inv0⟩
  case round =>
    obtain ⟨k, hk, rfl, inv⟩ := hrel
    clear inv0
    by_cases hlt : k < xs.length
    · obtain ⟨d, hd, hcc, hfo, inv'⟩ := inv.at_ k (by omega)
      have hbl := inv.below
      obtain ⟨b1, o1, rfl, hb1, hc1⟩ := ra k hlt
      rw [← hbl.cell (p := ⟨b1, o1 + k, none⟩) hb1] at hc1
      have hx : xs[k] < 32768 := LA.out _ (List.getElem_mem _)
      have uw := hf_word xs k hlt
      have UW := Lib.hid uw; clear uw inv'
      by_cases hlt2 : k + 1 < xs.length
      · have hg : decide (((k : Int) + 1) < (xs.length : Int)) = true := by simp; omega
        have hc2 : wr.cell? ⟨b1, o1 + (k + 1), none⟩ = some (.int .i64 (xs[k + 1] : Int)) := by
          obtain ⟨b2, o2, e2, hb2, hc2⟩ := ra (k + 1) hlt2
          simp only [Option.some.injEq, Addr.mk.injEq, and_true] at e2
          obtain ⟨rfl, rfl⟩ := e2
          rw [hbl.cell (p := ⟨b1, o1 + (k + 1), none⟩) hb2]; exact hc2
        have hy : xs[k + 1] < 32768 := LA.out _ (List.getElem_mem _)
        have UW2 := Lib.hid (UW.out xs[k + 1] (by rw [List.getElem?_eq_getElem hlt2]; rfl))
        clear UW
        have hne : b1 ≠ bo := by have := inv.1; omega
        have hc3 : (wr.setCell ⟨bo, k, none⟩ (.int .i64 ((xs[k] : Int) / 2))).cell? ⟨b1, o1 + (k + 1), none⟩ = some (.int .i64 (xs[k + 1] : Int)) := by
          rw [← hc2]; exact World.cell?_of_block (Below.heap_setCell _ _ _ _ hne)
        generalize xs[k] = x at *
        generalize xs[k + 1] = y at *
        rcases Nat.mod_two_eq_zero_or_one y with h2 | h2
        · have hm : (((y : Int) % 2) == 1) = false := by simp; omega
          rw [h2] at UW2
          go_wp2
          go_roundw
          case rel =>
            refine ⟨k + 1, by omega, by go_num, inv.set k (x / 2) _ (by simp) (by unfold R15; omega) ?_⟩
            intro o ho _ hp j hj
            by_cases hjk : j = k
            · subst hjk; rw [List.getElem?_set_self (by omega), ← UW2.out]; exact congrArg some (by omega)
            · rw [List.getElem?_set_ne (by omega)]; exact hp j (by omega)
          case measure => simp [intOf]; omega
        · have hm : (((y : Int) % 2) == 1) = true := by simp; omega
          rw [h2] at UW2
          go_wp2
          go_roundw
          case rel =>
            refine ⟨k + 1, by omega, by go_num, (inv.set (q := fun o => (∀ j, j < k → o[j]? = some (YtpjjbdpkhmeldaaDoor.val R15 (xs.drop j) / 2 % R15))) k (x / 2) _ (by simp) (by unfold R15; omega) (fun o ho _ hp j hj => by rw [List.getElem?_set_ne (by omega)]; exact hp j hj)).set k (x / 2 + 16384) _ (by omega) (by unfold R15; omega) ?_⟩
            intro o ho _ hp j hj
            by_cases hjk : j = k
            · subst hjk; rw [List.getElem?_set_self (by omega), ← UW2.out]; exact congrArg some (by omega)
            · rw [List.getElem?_set_ne (by omega)]; exact hp j (by omega)
          case measure => simp [intOf]; omega
      · have hg : decide (((k : Int) + 1) < (xs.length : Int)) = false := by simp; omega
        have UW2 := Lib.hid (UW.out 0 (by rw [List.getElem?_eq_none (by omega)]; rfl))
        clear UW
        generalize xs[k] = x at *
        go_wp2
        go_roundw
        case rel =>
          refine ⟨k + 1, by omega, by go_num, inv.set k (x / 2) _ (by simp) (by unfold R15; omega) ?_⟩
          intro o ho _ hp j hj
          by_cases hjk : j = k
          · subst hjk; rw [List.getElem?_set_self (by omega), ← UW2.out]; exact congrArg some (by omega)
          · rw [List.getElem?_set_ne (by omega)]; exact hp j (by omega)
        case measure => simp [intOf]; omega
    · obtain rfl : k = xs.length := by omega
      obtain ⟨o, hol, hod, hp, hob, hbl⟩ := inv.facts
      have hov : val R15 o = m / 2 := by
        have := HfP.val LA.out hp hol xs.length (Nat.le_refl _)
        rw [Nat.sub_self, List.drop_zero, List.drop_zero, VA.out] at this
        exact this
      have HOV := Lib.hid hov; have HOD := Lib.hid hod; have HOL := Lib.hid hol
      clear hov hod hp
      have hol1 : o.length ≤ xs.length := by omega
      clear hol
      go_wp2_with fail
      rw [show xs.length = o.length from HOL.out.symm]
      refine (rtrim_ds (some ⟨bo, 0, none⟩) o.length o _ (by omega) (by omega) hob.rd).mono ?_
      rintro e w' ⟨rfl, rfl⟩
      go_wp2
      go_ret
      exact ⟨_, rfl, NatV.of_row R15_ge hob.rd (Nat.le_refl _) HOD.out _ HOV.out, hbl⟩

/-- the number of bits -/
def blen (n : Nat) : Nat := if n = 0 then 0 else Nat.log2 n + 1

theorem blen_zero : blen 0 = 0 := rfl
theorem blen_half (n : Nat) (h : 0 < n) : blen n = blen (n / 2) + 1 := by
  unfold blen
  rw [if_neg (by omega)]
  by_cases h2 : n / 2 = 0
  · rw [if_pos h2]
    obtain rfl : n = 1 := by omega
    rfl
  · rw [if_neg h2]
    conv => lhs; rw [Nat.log2_def, if_pos (by omega)]

theorem lt_blen (n : Nat) : n < 2 ^ blen n := by
  unfold blen
  split
  · rename_i h; subst h; simp
  · exact Nat.lt_log2_self

theorem blen_le (n : Nat) (h : 0 < n) : 2 ^ (blen n - 1) ≤ n := by
  unfold blen
  rw [if_neg (by omega), Nat.add_sub_cancel]
  exact Nat.log2_self_le (by omega)

theorem blen_unique (n k : Nat) (h1 : 2 ^ k ≤ n) (h2 : n < 2 ^ (k + 1)) : blen n = k + 1 := by
  have hp : 0 < n := Nat.lt_of_lt_of_le (Nat.two_pow_pos k) h1
  have a := lt_blen n
  have b := blen_le n hp
  have c := (Nat.pow_lt_pow_iff_right (a := 2) (by omega)).1 (Nat.lt_of_le_of_lt h1 a)
  have d := (Nat.pow_lt_pow_iff_right (a := 2) (by omega)).1 (Nat.lt_of_le_of_lt b h2)
  omega

theorem blen_pos (n : Nat) (h : 0 < n) : 0 < blen n := by unfold blen; rw [if_neg (by omega)]; omega

theorem R15_pow (k : Nat) : R15 ^ k = 2 ^ (15 * k) := by rw [Nat.pow_mul]; rfl

theorem blen_digs (n : Nat) (h : 0 < (digs R15 n).length) : blen n = 15 * ((digs R15 n).length - 1) + blen ((digs R15 n)[(digs R15 n).length - 1]) := by
  have hl := digs_last R15 R15_ge n h
  have h2 := val_take_succ R15 (digs R15 n) ((digs R15 n).length - 1) (by omega)
  rw [show (digs R15 n).length - 1 + 1 = (digs R15 n).length from by omega, List.take_length, val_digs R15 R15_ge] at h2
  have h3 := val_lt R15 R15_ge ((digs R15 n).take ((digs R15 n).length - 1)) (fun d hd => digs_lt R15 R15_ge n d (List.mem_of_mem_take hd))
  rw [List.length_take, Nat.min_eq_left (by omega)] at h3
  generalize (digs R15 n)[(digs R15 n).length - 1] = t at *
  generalize val R15 ((digs R15 n).take ((digs R15 n).length - 1)) = v at *
  generalize (digs R15 n).length - 1 = L at *
  rw [R15_pow] at h2 h3
  have b1 := lt_blen t
  have b2 := blen_le t hl
  have b3 := blen_pos t hl
  obtain ⟨c, hc⟩ : ∃ c, blen t = c + 1 := ⟨blen t - 1, by omega⟩
  rw [hc] at b1 b2
  rw [hc, ← Nat.add_assoc]
  refine blen_unique n _ ?_ ?_
  · rw [Nat.pow_add, h2, Nat.mul_comm]
    rw [Nat.add_sub_cancel] at b2
    have := Nat.mul_le_mul_right (2 ^ (15 * L)) b2
    omega
  · rw [Nat.add_assoc, Nat.pow_add, h2, Nat.mul_comm (2 ^ (15 * L))]
    have : (t + 1) * 2 ^ (15 * L) ≤ 2 ^ (c + 1) * 2 ^ (15 * L) := Nat.mul_le_mul_right _ b1
    grind

theorem blen_15 (n : Nat) (h : n < 32768) : blen n ≤ 15 := by
  rcases Nat.eq_zero_or_pos n with rfl | hp
  · simp [blen]
  · have b := blen_le n hp
    have : (2 : Nat) ^ (blen n - 1) < 2 ^ 15 := by omega
    have := (Nat.pow_lt_pow_iff_right (a := 2) (by omega)).1 this
    omega

set_option maxHeartbeats 1000000 in
theorem rbits_any (va : Value) (m : Nat) (w : World) (ha : NatV w .i64 R15 va m) (hma : (digs R15 m).length ≤ 100000) :
    Calls Tryd.prog 58 #[va] w fun e w' => e = .returned (.int .i64 (blen m : Nat)) ∧ Below w.heap.size w w' := by
  obtain ⟨aa, ca, rfl, hca, ra⟩ := ha
  rcases Nat.eq_zero_or_pos (digs R15 m).length with h0 | h0
  · have hm : m = 0 := (digs_eq_nil R15 R15_ge m).1 h0
    rw [h0]
    go_enter Tryd.func58, Tryd.ntmps58
    go_wp2
    go_ret
    rw [hm]
    exact ⟨rfl, Below.refl _ _⟩
  · have hb := blen_digs m h0
    have hlt : (digs R15 m)[(digs R15 m).length - 1] < 32768 := digs_ltR m _ (List.getElem_mem _)
    obtain ⟨b, o, rfl, hlb, hc⟩ := ra ((digs R15 m).length - 1) (by omega)
    obtain ⟨t, ht⟩ : ∃ t, t = (digs R15 m)[(digs R15 m).length - 1] := ⟨_, rfl⟩
    rw [← ht] at hb hlt hc
    clear ht ra hca
    generalize (digs R15 m).length = L at *
    obtain ⟨l, rfl⟩ : ∃ l, L = l + 1 := ⟨L - 1, by omega⟩
    rw [Nat.add_sub_cancel] at hb hc
    have HB := Lib.hid hb
    clear hb
    have hbt := blen_15 t hlt
    have e0 : (((l + 1 : Nat) : Int) == 0) = false := by simp; omega
    have e1 : ((l + 1 : Nat) : Int) - 1 = (l : Int) := by omega
    go_enter Tryd.func58, Tryd.ntmps58
    go_wp2
    go_loopw [3, 4] (fun s3 s4 wr => ∃ c d : Nat, c ≤ 15 * l + 15 ∧ d < 32768 ∧ s3 = .int .i64 c ∧ s4 = .int .i64 d ∧ Hid (c + blen d = 15 * l + blen t) ∧ Below w.heap.size w wr) (fun _ s4 _ => (intOf s4).toNat)
    case atStart => exact ⟨15 * l, t, by omega, hlt, by congr 1, rfl, Lib.hid rfl, Below.refl _ _⟩
    case round =>
      obtain ⟨c, d, hc1, hd, rfl, rfl, HC, hbl⟩ := hrel
      rcases Nat.eq_zero_or_pos d with rfl | hp
      · go_wp2
        go_ret
        have h1 := HC.out
        rw [blen_zero] at h1
        rw [HB.out, ← h1]
        exact ⟨rfl, hbl⟩
      · have hh := blen_half d hp
        have hq : c < 15 * l + 15 := by have := HC.out; omega
        have HH := Lib.hid hh
        clear hh
        go_wp2
        go_roundw
        case rel =>
          exact ⟨c + 1, d / 2, by omega, by omega, by go_num, by simp, Lib.hid (by have := HC.out; have := HH.out; omega), hbl⟩
        case measure => simp [intOf]; omega

end Go.Proofs.YtpjjbdpkhmeldaaDoor
