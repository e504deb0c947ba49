/- contracts of ratio's shift, unshift, short -/
import Derived.Test.YtpjjbdpkhmeldaaDoorA3
namespace Go.Proofs.YtpjjbdpkhmeldaaDoor
open Go.RowKit

theorem or_add (d t s : Nat) (h : d < 2 ^ s) : d ||| (2 ^ s * t) = d + 2 ^ s * t := by
  rw [Nat.or_comm, ← Nat.two_pow_add_eq_or_of_lt h]; omega

theorem bits_or_u32 (a b : Nat) (ha : a < 4294967296) (hb : b < 4294967296) : bits BinOp.or .u32 (a : Int) (b : Int) = ((a ||| b : Nat) : Int) := by
  have h : a ||| b < 4294967296 := Nat.or_lt_two_pow (n := 32) ha hb
  have e : (BitVec.ofNat 32 a ||| BitVec.ofNat 32 b).toNat = a ||| b := by
    rw [BitVec.toNat_or, BitVec.toNat_ofNat, BitVec.toNat_ofNat, Nat.mod_eq_of_lt ha, Nat.mod_eq_of_lt hb]
  show IntKind.u32.wrap (((BitVec.ofInt 32 (a : Int) ||| BitVec.ofInt 32 (b : Int)).toNat : Nat) : Int) = _
  rw [BitVec.ofInt_natCast, BitVec.ofInt_natCast, e]
  simp [IntKind.wrap, IntKind.bits, IntKind.signed]; omega

theorem bits_or_u64 (a b : Nat) (ha : a < 18446744073709551616) (hb : b < 18446744073709551616) : bits BinOp.or .u64 (a : Int) (b : Int) = ((a ||| b : Nat) : Int) := by
  have h : a ||| b < 18446744073709551616 := Nat.or_lt_two_pow (n := 64) ha hb
  have e : (BitVec.ofNat 64 a ||| BitVec.ofNat 64 b).toNat = a ||| b := by
    rw [BitVec.toNat_or, BitVec.toNat_ofNat, BitVec.toNat_ofNat, Nat.mod_eq_of_lt ha, Nat.mod_eq_of_lt hb]
  show IntKind.u64.wrap (((BitVec.ofInt 64 (a : Int) ||| BitVec.ofInt 64 (b : Int)).toNat : Nat) : Int) = _
  rw [BitVec.ofInt_natCast, BitVec.ofInt_natCast, e]
  simp [IntKind.wrap, IntKind.bits, IntKind.signed]; omega

theorem u64_id (n : Nat) (h : n < 18446744073709551616) : IntKind.u64.wrap (n : Int) = (n : Int) := by
  simp [IntKind.wrap, IntKind.bits, IntKind.signed]; omega

theorem mul_pow_lt {x s : Nat} (hx : x < 4294967296) (hs : s < 32) : x * 2 ^ s < 18446744073709551616 := by
  have h1 : 2 ^ s ≤ 2 ^ 32 := Nat.pow_le_pow_right (by omega) (by omega)
  have h2 : x * 2 ^ s ≤ 4294967295 * 2 ^ 32 := Nat.mul_le_mul (by omega) h1
  omega

/-- what stands behind a shift: the low word meets what is there, without a carry -/
theorem sh_low {d x s : Nat} (hx : x < 4294967296) (hs : s < 32) (hd : d < 2 ^ s) :
    (bits BinOp.or .u32 (d : Int) (IntKind.u64.wrap ((x : Int) * 2 ^ s) % 4294967296) = ((d + x * 2 ^ s % 4294967296 : Nat) : Int)) ∧ d + x * 2 ^ s % 4294967296 < 4294967296 ∧
    IntKind.u64.wrap ((x : Int) * 2 ^ s) / 4294967296 % 4294967296 = ((x * 2 ^ s / 4294967296 : Nat) : Int) ∧ x * 2 ^ s / 4294967296 < 2 ^ s := by
  have hm := mul_pow_lt hx hs
  have e : IntKind.u64.wrap ((x : Int) * 2 ^ s) = ((x * 2 ^ s : Nat) : Int) := by
    have := u64_id _ hm
    rwa [Int.natCast_mul, Int.natCast_pow] at this
  have hp : (2 : Nat) ^ s * 2 ^ (32 - s) = 4294967296 := by rw [← Nat.pow_add, show s + (32 - s) = 32 from by omega]
  have hmod : x * 2 ^ s % 4294967296 = 2 ^ s * (x % 2 ^ (32 - s)) := by
    rw [← hp, Nat.mul_comm x, Nat.mul_mod_mul_left]
  have hlt : 2 ^ s * (x % 2 ^ (32 - s)) + 2 ^ s ≤ 4294967296 := by
    have h1 : x % 2 ^ (32 - s) + 1 ≤ 2 ^ (32 - s) := Nat.mod_lt _ (Nat.two_pow_pos _)
    have := Nat.mul_le_mul_left (2 ^ s) h1
    rw [hp, Nat.mul_add, Nat.mul_one] at this
    exact this
  have hdq : x * 2 ^ s / 4294967296 < 2 ^ s := by
    rw [Nat.div_lt_iff_lt_mul (by omega), Nat.mul_comm (2 ^ s)]
    exact Nat.mul_lt_mul_of_pos_right hx (Nat.two_pow_pos s)
  have h32 : (2 : Nat) ^ s ≤ 2 ^ 32 := Nat.pow_le_pow_right (by omega) (by omega)
  refine ⟨?_, by omega, by rw [e]; omega, hdq⟩
  rw [e, show (((x * 2 ^ s : Nat) : Int) % 4294967296) = ((x * 2 ^ s % 4294967296 : Nat) : Int) from by omega, bits_or_u32 _ _ (by omega) (by omega), hmod, or_add _ _ _ hd]

def ShP (xs : List Nat) (s k : Nat) (o : List Nat) : Prop :=
  val W32 (o.take (k + 1)) = val W32 (xs.take k) * 2 ^ s ∧ (∀ d, o[k]? = some d → d < 2 ^ s) ∧ ∀ j, k < j → j < o.length → o[j]? = some 0

theorem ShP.step {xs : List Nat} {s k d : Nat} {o : List Nat} (h : ShP xs s k o) (ho : o.length = xs.length + 1) (hk : k < xs.length) (hd : o[k]? = some d) (_hs : s < 32) (hx : xs[k] * 2 ^ s / 4294967296 < 2 ^ s) :
    ShP xs s (k + 1) ((o.set k (d + xs[k] * 2 ^ s % 4294967296)).set (k + 1) (xs[k] * 2 ^ s / 4294967296)) := by
  obtain ⟨h1, h2, h3⟩ := h
  have hd' : o[k]'(by omega) = d := by rw [List.getElem?_eq_getElem (by omega)] at hd; exact Option.some.inj hd
  refine ⟨?_, ?_, ?_⟩
  · rw [val_take_succ W32 _ (k + 1) (by simp; omega), List.take_set_of_le (Nat.le_refl _), List.getElem_set_self, val_take_succ W32 _ k (by simp; omega), List.take_set_of_le (Nat.le_refl _), List.getElem_set_self, val_take_succ W32 xs k hk, Nat.add_mul _ _ (2 ^ s), ← h1,
      val_take_succ W32 o k (by omega), hd', Nat.pow_succ]
    have h5 := Nat.mod_add_div (xs[k] * 2 ^ s) 4294967296
    have h6 : (xs[k] * 2 ^ s % 4294967296 + W32 * (xs[k] * 2 ^ s / 4294967296)) * W32 ^ k = xs[k] * 2 ^ s * W32 ^ k := by rw [show W32 = 4294967296 from rfl, h5]
    generalize xs[k] * 2 ^ s % 4294967296 = a at *
    generalize xs[k] * 2 ^ s / 4294967296 = b at *
    generalize W32 ^ k = p at *
    generalize 2 ^ s = q at *
    generalize W32 = c at *
    grind
  · intro e he
    rw [List.getElem?_set_self (by simp; omega)] at he
    rw [← Option.some.inj he]; exact hx
  · intro j hj hjl
    rw [List.getElem?_set_ne (by omega), List.getElem?_set_ne (by omega)]
    exact h3 j (by omega) (by simpa using hjl)

set_option maxHeartbeats 1000000 in
theorem shift_any (va : Value) (m s : Nat) (w : World) (ha : NatV w .u32 W32 va m) (hma : (digs W32 m).length ≤ 100000) (hs : s < 32) :
    Calls Tryd.prog 56 #[va, .int .i64 s] w fun e w' => ∃ v, e = .returned v ∧ NatV w' .u32 W32 v (m * 2 ^ s) ∧ Below w.heap.size w w' := by
  obtain ⟨aa, ca, rfl, hca, ra⟩ := ha
  have va := val_digs W32 W32_ge m
  have la := digs_lt32 m
  generalize digs W32 m = xs at *
  have VA := Lib.hid va; have LA := Lib.hid la
  clear va la
  go_enter Tryd.func56, Tryd.ntmps56
  go_wp2_with (first
    | (at_make; refine wpList_make_row _ rfl (.tmp 11) (.tmp 11) 42 rfl 65 .u32 4 (by kernel_rfl) u32_type .i64 .i64 _ _ (xs.length + 1) rfl rfl (by omega) (by omega) (by omega) (by omega) ?_; intro w1 hB1 hb1 hs1))
  have inv0 : RowI 65 .u32 W32 w w1 w.heap.size (xs.length + 1) (ShP xs s 0) := RowI.mk' (Nat.le_refl _) hb1 _ (by simp) (by intro d hd; rw [List.mem_replicate] at hd; unfold W32; omega) ⟨by rw [List.take_replicate, val_replicate_zero]; simp, by intro d hd; simp at hd; subst hd; exact Nat.two_pow_pos s, by intro j h1 h2; rw [List.length_replicate] at h2; rw [List.getElem?_replicate, if_pos h2]⟩ hB1
  clear hB1 hb1 hs1
  obtain ⟨bo, hbo⟩ : ∃ bo, bo = w.heap.size := ⟨_, rfl⟩
  rw [← hbo] at inv0
  rw [← hbo]
  clear hbo
  go_loopw [15] (fun s15 wr => ∃ k : Nat, k ≤ xs.length ∧ s15 = .int .i64 k ∧ RowI 65 .u32 W32 w wr bo (xs.length + 1) (ShP xs s k)) (fun s15 _ => xs.length - (intOf s15).toNat)
  case atStart => exact ⟨0, by omega, rfl, inv0⟩
  case round =>
    obtain ⟨k, hk, rfl, inv⟩ := hrel
    clear inv0
    by_cases hlt : k < xs.length
    · obtain ⟨d, hd, hcc, hfo, inv'⟩ := inv.at_ k (by omega)
      obtain ⟨d2, hd2, hcc2, hfo2, inv''⟩ := inv'.at_ (k + 1) (by omega)
      have hbl := inv.below
      obtain ⟨b1, o1, rfl, hb1, hc1⟩ := ra k hlt
      rw [← hbl.cell (p := ⟨b1, o1 + k, none⟩) hb1] at hc1
      have hx : xs[k] < 4294967296 := LA.out _ (List.getElem_mem _)
      clear inv inv'
      have hd' : d < 2 ^ s := by
        obtain ⟨o, _, _, ⟨⟨h3, h4⟩, _⟩, _⟩ := inv''.facts
        exact h3.2.1 d h4
      obtain ⟨e1, e2, e3, e4⟩ := sh_low hx hs hd'
      have stp := fun (o : List Nat) (h : ShP xs s k o) (ho : o.length = xs.length + 1) (h2 : o[k]? = some d) => ShP.step h ho hlt h2 hs e4
      have STP := Lib.hid stp; have E1 := Lib.hid e1; have E2 := Lib.hid e2; have E3 := Lib.hid e3; have E4 := Lib.hid e4; have HD := Lib.hid hd'
      clear stp e1 e2 e3 e4 hd'
      generalize xs[k] = x at *
      go_wp2
      go_roundw
      case rel =>
        refine ⟨k + 1, by omega, by go_num, ?_⟩
        have h32 : (2 : Nat) ^ s ≤ 2 ^ 32 := Nat.pow_le_pow_right (by omega) (by omega)
        have i1 := inv''.set (q := fun o => ∃ o1, o = o1.set k (d + x * 2 ^ s % 4294967296) ∧ o1.length = xs.length + 1 ∧ ShP xs s k o1 ∧ o1[k]? = some d) k _ _ E1.out (by unfold W32; exact E2.out) (fun o ho _ hp => ⟨o, rfl, ho, hp.1.1, hp.1.2⟩)
        refine i1.set (k + 1) _ _ E3.out (by have := E4.out; unfold W32; omega) ?_
        rintro o _ _ ⟨o1, rfl, h1, h2, h3⟩
        exact STP.out o1 h2 h1 h3
      case measure => simp [intOf]; omega
    · obtain rfl : k = xs.length := by omega
      obtain ⟨o, hol, hod, ⟨hp1, hp2, hp3⟩, hob, hbl⟩ := inv.facts
      have hov : val W32 o = m * 2 ^ s := by
        rw [List.take_of_length_le (by omega), List.take_length, VA.out] at hp1
        exact hp1
      have HOV := Lib.hid hov; have HOD := Lib.hid hod; have HOL := Lib.hid hol
      clear hov hod hp1 hp2 hp3
      have hol1 : o.length ≤ xs.length + 1 := by omega
      clear hol
      go_wp2_with fail
      rw [show xs.length + 1 = o.length from HOL.out.symm]
      refine (trim_ds (some ⟨bo, 0, none⟩) o.length o _ (by omega) (by omega) hob.rd).mono ?_
      rintro e w' ⟨rfl, rfl⟩
      go_wp2
      go_ret
      exact ⟨_, rfl, NatV.of_row W32_ge hob.rd (Nat.le_refl _) HOD.out _ HOV.out, hbl⟩

/-- two words side by side -/
theorem two_words (x y : Nat) (hx : x < 4294967296) (hy : y < 4294967296) :
    bits BinOp.or .u64 (x : Int) ((y : Int) * 4294967296) = ((x + y * 4294967296 : Nat) : Int) := by
  have := bits_or_u64 x (y * 4294967296) (by omega) (by omega)
  rw [Int.natCast_mul] at this
  rw [show ((y : Int) * 4294967296) = (y : Int) * ((4294967296 : Nat) : Int) from rfl, this]
  have h := or_add x y 32 hx
  rw [show (2 : Nat) ^ 32 = 4294967296 from rfl, Nat.mul_comm 4294967296] at h
  rw [h]
theorem two_words' (x y : Nat) (hx : x < 4294967296) (hy : y < 4294967296) :
    bits BinOp.or .u64 ((y : Int) * 4294967296) (x : Int) = ((y * 4294967296 + x : Nat) : Int) := by
  have := bits_or_u64 (y * 4294967296) x (by omega) (by omega)
  rw [Int.natCast_mul] at this
  rw [show ((y : Int) * 4294967296) = (y : Int) * ((4294967296 : Nat) : Int) from rfl, this]
  have h := or_add x y 32 hx
  rw [show (2 : Nat) ^ 32 = 4294967296 from rfl, Nat.mul_comm 4294967296] at h
  rw [Nat.or_comm, h, Nat.add_comm]

theorem drop_val (B : Nat) (xs : List Nat) (k : Nat) (h : k < xs.length) : val B (xs.drop k) = xs[k] + B * val B (xs.drop (k + 1)) := by
  rw [List.drop_eq_getElem_cons h, val_cons]

def UnP (xs : List Nat) (s k : Nat) (o : List Nat) : Prop := ∀ j, j < k → o[j]? = some (val W32 (xs.drop j) / 2 ^ s % W32)

/-- the word that two words give, shifted back -/
theorem un_word (xs : List Nat) (_hxs : ∀ d ∈ xs, d < 4294967296) (s k : Nat) (hk : k < xs.length) (hs : s < 32) (y : Nat) (hy : y = xs[k + 1]?.getD 0) :
    (xs[k] + y * 4294967296) / 2 ^ s % 4294967296 = val W32 (xs.drop k) / 2 ^ s % W32 := by
  have hp : (2 : Nat) ^ s * 2 ^ (32 - s) = 4294967296 := by rw [← Nat.pow_add, show s + (32 - s) = 32 from by omega]
  rw [drop_val W32 xs k hk]
  have hr : ∃ r, val W32 (xs.drop (k + 1)) = y + W32 * r := by
    by_cases h : k + 1 < xs.length
    · refine ⟨val W32 (xs.drop (k + 2)), ?_⟩
      rw [drop_val W32 xs (k + 1) h, hy, List.getElem?_eq_getElem h]; rfl
    · refine ⟨0, ?_⟩
      rw [hy, List.drop_eq_nil_of_le (by omega), List.getElem?_eq_none (by omega)]; rfl
  obtain ⟨r, hr⟩ := hr
  rw [hr]
  have e : xs[k] + W32 * (y + W32 * r) = (xs[k] + y * 4294967296) + 2 ^ s * (2 ^ (32 - s) * (4294967296 * r)) := by
    rw [← Nat.mul_assoc, hp, show W32 = 4294967296 from rfl]
    grind
  rw [e, Nat.add_mul_div_left _ _ (Nat.two_pow_pos s)]
  rw [show (2 : Nat) ^ (32 - s) * (4294967296 * r) = 4294967296 * (2 ^ (32 - s) * r) from by grind, show W32 = 4294967296 from rfl, Nat.add_mul_mod_self_left]

theorem UnP.val {xs : List Nat} {s : Nat} {o : List Nat} (hxs : ∀ d ∈ xs, d < 4294967296) (h : UnP xs s xs.length o) (ho : o.length = xs.length) (k : Nat) (hk : k ≤ xs.length) : YtpjjbdpkhmeldaaDoor.val W32 (o.drop (xs.length - k)) = YtpjjbdpkhmeldaaDoor.val W32 (xs.drop (xs.length - k)) / 2 ^ s := by
  induction k with
  | zero => rw [List.drop_eq_nil_of_le (by omega), List.drop_eq_nil_of_le (by omega)]; simp
  | succ k ih =>
    have ih := ih (by omega)
    have h1 := h (xs.length - (k + 1)) (by omega)
    rw [List.getElem?_eq_getElem (by omega)] at h1
    rw [drop_val W32 o _ (by omega), Option.some.inj h1, show xs.length - (k + 1) + 1 = xs.length - k from by omega, ih]
    have e := drop_val W32 xs (xs.length - (k + 1)) (by omega)
    rw [show xs.length - (k + 1) + 1 = xs.length - k from by omega] at e
    have hlt : xs[xs.length - (k + 1)]'(by omega) < W32 := hxs _ (List.getElem_mem _)
    have e2 : YtpjjbdpkhmeldaaDoor.val W32 (xs.drop (xs.length - k)) = YtpjjbdpkhmeldaaDoor.val W32 (xs.drop (xs.length - (k + 1))) / W32 := by
      rw [e, Nat.add_mul_div_left _ _ (by unfold W32; omega), Nat.div_eq_of_lt hlt, Nat.zero_add]
    rw [e2]
    have e3 : ∀ A : Nat, A / W32 / 2 ^ s = A / 2 ^ s / W32 := fun A => by rw [Nat.div_div_eq_div_mul, Nat.div_div_eq_div_mul, Nat.mul_comm]
    rw [e3]
    exact Nat.mod_add_div _ _

set_option maxHeartbeats 1000000 in
theorem unshift_any (va : Value) (m s : Nat) (w : World) (ha : NatV w .u32 W32 va m) (hma : (digs W32 m).length ≤ 100000) (hs : s < 32) :
    Calls Tryd.prog 57 #[va, .int .i64 s] w fun e w' => ∃ v, e = .returned v ∧ NatV w' .u32 W32 v (m / 2 ^ s) ∧ Below w.heap.size w w' := by
  obtain ⟨aa, ca, rfl, hca, ra⟩ := ha
  have va := val_digs W32 W32_ge m
  have la := digs_lt32 m
  generalize digs W32 m = xs at *
  have VA := Lib.hid va; have LA := Lib.hid la
  clear va la
  go_enter Tryd.func57, Tryd.ntmps57
  go_wp2_with (first
    | (at_make; refine wpList_make_row _ rfl (.tmp 9) (.tmp 9) 42 rfl 65 .u32 4 (by kernel_rfl) u32_type .i64 .i64 _ _ xs.length rfl rfl rfl rfl (by omega) (by omega) ?_; intro w1 hB1 hb1 hs1))
  have inv0 : RowI 65 .u32 W32 w w1 w.heap.size xs.length (UnP xs s 0) := RowI.mk' (Nat.le_refl _) hb1 _ (by simp) (by intro d hd; rw [List.mem_replicate] at hd; unfold W32; omega) (by intro j hj; omega) hB1
  clear hB1 hb1 hs1
  obtain ⟨bo, hbo⟩ : ∃ bo, bo = w.heap.size := ⟨_, rfl⟩
  rw [← hbo] at inv0
  rw [← hbo]
  clear hbo
  go_loopw [13] (fun s13 wr => ∃ k : Nat, k ≤ xs.length ∧ s13 = .int .i64 k ∧ RowI 65 .u32 W32 w wr bo xs.length (UnP xs s k)) (fun s13 _ => xs.length - (intOf s13).toNat)
  case atStart => exact ⟨0, by omega, rfl, inv0⟩
  case round =>
    obtain ⟨k, hk, rfl, inv⟩ := hrel
    clear inv0
    by_cases hlt : k < xs.length
    · obtain ⟨d, hd, hcc, hfo, inv'⟩ := inv.at_ k (by omega)
      have hbl := inv.below
      obtain ⟨b1, o1, rfl, hb1, hc1⟩ := ra k hlt
      rw [← hbl.cell (p := ⟨b1, o1 + k, none⟩) hb1] at hc1
      have hx : xs[k] < 4294967296 := LA.out _ (List.getElem_mem _)
      have uw := un_word xs LA.out s k hlt hs
      have UW := Lib.hid uw; clear uw inv'
      by_cases hlt2 : k + 1 < xs.length
      · have hc2 : wr.cell? ⟨b1, o1 + (k + 1), none⟩ = some (.int .u32 (xs[k + 1] : Int)) := by
          obtain ⟨b2, o2, e2, hb2, hc2⟩ := ra (k + 1) hlt2
          simp only [Option.some.injEq, Addr.mk.injEq, and_true] at e2
          obtain ⟨rfl, rfl⟩ := e2
          rw [hbl.cell (p := ⟨b1, o1 + (k + 1), none⟩) hb2]; exact hc2
        have hy : xs[k + 1] < 4294967296 := LA.out _ (List.getElem_mem _)
        have UW2 := Lib.hid (UW.out xs[k + 1] (by rw [List.getElem?_eq_getElem hlt2]; rfl))
        have TW := two_words xs[k] xs[k + 1] hx hy
        clear UW
        obtain ⟨t, ht⟩ : ∃ t, t = xs[k] + xs[k + 1] * 4294967296 := ⟨_, rfl⟩
        rw [← ht] at TW UW2
        have htl : t < 18446744073709551616 := by omega
        have HT := Lib.hid ht; clear ht
        generalize xs[k] = x at *
        generalize xs[k + 1] = y at *
        go_wp2
        go_roundw
        case rel =>
          refine ⟨k + 1, by omega, by go_num, inv.set k (t / 2 ^ s % 4294967296) _ (by simp) (by unfold W32; omega) ?_⟩
          intro o ho _ hp j hj
          by_cases hjk : j = k
          · subst hjk; rw [List.getElem?_set_self (by omega), UW2.out]
          · rw [List.getElem?_set_ne (by omega)]; exact hp j (by omega)
        case measure => simp [intOf]; omega
      · have UW2 := Lib.hid (UW.out 0 (by rw [List.getElem?_eq_none (by omega)]; rfl))
        clear UW
        generalize xs[k] = x at *
        go_wp2
        go_roundw
        case rel =>
          refine ⟨k + 1, by omega, by go_num, inv.set k (x / 2 ^ s % 4294967296) _ (by simp) (by unfold W32; omega) ?_⟩
          intro o ho _ hp j hj
          by_cases hjk : j = k
          · subst hjk; rw [List.getElem?_set_self (by omega)]; have := UW2.out; rw [Nat.zero_mul, Nat.add_zero] at this; rw [this]
          · rw [List.getElem?_set_ne (by omega)]; exact hp j (by omega)
        case measure => simp [intOf]; omega
    · obtain rfl : k = xs.length := by omega
      obtain ⟨o, hol, hod, hp, hob, hbl⟩ := inv.facts
      have hov : val W32 o = m / 2 ^ s := by
        have := UnP.val LA.out hp hol xs.length (Nat.le_refl _)
        rw [Nat.sub_self, List.drop_zero, List.drop_zero, VA.out] at this
        exact this
      have HOV := Lib.hid hov; have HOD := Lib.hid hod; have HOL := Lib.hid hol
      clear hov hod hp
      have hol1 : o.length ≤ xs.length := by omega
      clear hol
      go_wp2_with fail
      rw [show xs.length = o.length from HOL.out.symm]
      refine (trim_ds (some ⟨bo, 0, none⟩) o.length o _ (by omega) (by omega) hob.rd).mono ?_
      rintro e w' ⟨rfl, rfl⟩
      go_wp2
      go_ret
      exact ⟨_, rfl, NatV.of_row W32_ge hob.rd (Nat.le_refl _) HOD.out _ HOV.out, hbl⟩

def QtP (xs : List Nat) (d k r : Nat) (o : List Nat) : Prop := r < d ∧ val W32 (o.drop k) * d + r = val W32 (xs.drop k)

theorem QtP.step {xs : List Nat} {d k r : Nat} {o : List Nat} (h : QtP xs d (k + 1) r o) (ho : o.length = xs.length) (hk : k < xs.length) : QtP xs d k ((r * 4294967296 + xs[k]) % d) (o.set k ((r * 4294967296 + xs[k]) / d)) := by
  obtain ⟨h1, h2⟩ := h
  refine ⟨Nat.mod_lt _ (by omega), ?_⟩
  rw [drop_val W32 _ k (by rw [List.length_set]; omega), List.getElem_set_self, List.drop_set_of_lt (by omega), drop_val W32 xs k hk, ← h2, show W32 = 4294967296 from rfl]
  have := Nat.mod_add_div (r * 4294967296 + xs[k]) d
  generalize (r * 4294967296 + xs[k]) % d = a at *
  generalize (r * 4294967296 + xs[k]) / d = b at *
  generalize val 4294967296 (o.drop (k + 1)) = c at *
  grind

theorem wrap_quo (t d : Nat) (h : t / d < 4294967296) : IntKind.u64.wrap ((t : Int) / (d : Int)) % 4294967296 = ((t / d : Nat) : Int) := by
  rw [← Int.natCast_ediv]
  generalize t / d = q at *
  rw [u64_id _ (by omega)]; omega

theorem QtP.lt {r d x : Nat} (h : r < d) (hd : d < 4294967296) (hx : x < 4294967296) : (r * 4294967296 + x) / d < 4294967296 ∧ r * 4294967296 + x < 18446744073709551616 := by
  refine ⟨?_, by omega⟩
  rw [Nat.div_lt_iff_lt_mul (by omega)]
  have : (r + 1) * 4294967296 ≤ d * 4294967296 := Nat.mul_le_mul_right _ h
  omega

set_option maxHeartbeats 1000000 in
theorem short_any (va : Value) (m d : Nat) (w : World) (ha : NatV w .u32 W32 va m) (hma : (digs W32 m).length ≤ 100000) (hd0 : 0 < d) (hd1 : d < 4294967296) :
    Calls Tryd.prog 54 #[va, .int .u32 d] w fun e w' => ∃ v, e = .returned (.tuple #[v, .int .u32 ((m % d : Nat) : Int)]) ∧ NatV w' .u32 W32 v (m / d) ∧ Below w.heap.size w w' := by
  obtain ⟨aa, ca, rfl, hca, ra⟩ := ha
  have va := val_digs W32 W32_ge m
  have la := digs_lt32 m
  generalize digs W32 m = xs at *
  have VA := Lib.hid va; have LA := Lib.hid la
  clear va la
  go_enter Tryd.func54, Tryd.ntmps54
  go_wp2_with (first
    | (at_make; refine wpList_make_row _ rfl (.tmp 10) (.tmp 10) 42 rfl 65 .u32 4 (by kernel_rfl) u32_type .i64 .i64 _ _ xs.length rfl rfl rfl rfl (by omega) (by omega) ?_; intro w1 hB1 hb1 hs1))
  have inv0 : RowI 65 .u32 W32 w w1 w.heap.size xs.length (QtP xs d xs.length 0) := RowI.mk' (Nat.le_refl _) hb1 _ (by simp) (by intro d hd; rw [List.mem_replicate] at hd; unfold W32; omega) ⟨hd0, by rw [List.drop_eq_nil_of_le (by simp), List.drop_eq_nil_of_le (by simp)]; simp⟩ hB1
  clear hB1 hb1 hs1
  obtain ⟨bo, hbo⟩ : ∃ bo, bo = w.heap.size := ⟨_, rfl⟩
  rw [← hbo] at inv0
  rw [← hbo]
  clear hbo
  go_loopw [8, 7] (fun s8 s7 wr => ∃ k r : Nat, k ≤ xs.length ∧ r < d ∧ s8 = .int .i64 ((k : Int) - 1) ∧ s7 = .int .u64 r ∧ RowI 65 .u32 W32 w wr bo xs.length (QtP xs d k r)) (fun s8 _ _ => (intOf s8 + 1).toNat)
  case atStart => exact ⟨xs.length, 0, by omega, by omega, rfl, rfl, inv0⟩
  case round =>
    obtain ⟨k, r, hk, hr, rfl, rfl, inv⟩ := hrel
    clear inv0
    cases k with
    | succ k =>
      obtain ⟨c, hc, hcc, hfo, inv'⟩ := inv.at_ k (by omega)
      have hbl := inv.below
      obtain ⟨b1, o1, rfl, hb1, hc1⟩ := ra k (by omega)
      rw [← hbl.cell (p := ⟨b1, o1 + k, none⟩) hb1] at hc1
      have hx : xs[k] < 4294967296 := LA.out _ (List.getElem_mem _)
      obtain ⟨g1, g2⟩ := QtP.lt hr hd1 hx
      have hkx : k < xs.length := by omega
      have stp := fun (o : List Nat) (h : QtP xs d (k + 1) r o) (ho : o.length = xs.length) => QtP.step h ho hkx
      have TW := two_words' xs[k] r hx (by omega)
      have hm : (r * 4294967296 + xs[k]) % d < d := Nat.mod_lt _ hd0
      obtain ⟨t, ht⟩ : ∃ t, t = r * 4294967296 + xs[k] := ⟨_, rfl⟩
      rw [← ht] at stp TW g1 g2 hm
      have STP := Lib.hid stp
      have HT := Lib.hid ht
      clear stp inv' ht
      obtain ⟨x, hx'⟩ : ∃ x, x = xs[k] := ⟨_, rfl⟩
      rw [← hx'] at hc1 hx TW
      clear hx'
      rw [show (((k + 1 : Nat) : Int) - 1) = (k : Int) from by omega]
      go_wp2
      go_roundw
      case rel =>
        have e := wrap_quo t d g1
        exact ⟨k, t % d, by omega, hm, rfl, by simp, inv.set k (t / d) _ e (by unfold W32; omega) (fun o ho _ hp => STP.out o hp ho)⟩
      case measure => simp [intOf]
    | zero =>
      obtain ⟨o, hol, hod, ⟨hp1, hp2⟩, hob, hbl⟩ := inv.facts
      rw [List.drop_zero, List.drop_zero, VA.out] at hp2
      have hov : val W32 o = m / d := by
        rw [← hp2, Nat.mul_comm, Nat.mul_add_div hd0, Nat.div_eq_of_lt hp1, Nat.add_zero]
      have hrm : r = m % d := by
        rw [← hp2, Nat.mul_comm, Nat.mul_add_mod, Nat.mod_eq_of_lt hp1]
      have HOV := Lib.hid hov; have HOD := Lib.hid hod; have HOL := Lib.hid hol; have HR := Lib.hid hrm
      clear hov hod hp1 hp2 hrm
      have hol1 : o.length ≤ xs.length := by omega
      clear hol
      go_wp2_with fail
      rw [show xs.length = o.length from HOL.out.symm]
      refine (trim_ds (some ⟨bo, 0, none⟩) o.length o _ (by omega) (by omega) hob.rd).mono ?_
      rintro e w' ⟨rfl, rfl⟩
      go_wp2
      go_ret2
      refine ⟨_, ?_, NatV.of_row W32_ge hob.rd (Nat.le_refl _) HOD.out _ HOV.out, hbl⟩
      rw [← HR.out]; rfl

end Go.Proofs.YtpjjbdpkhmeldaaDoor
