/- contracts of the reference's natDiv, natGcd, part, number -/
import Derived.Test.YtpjjbdpkhmeldaaDoorR3
namespace Go.Proofs.YtpjjbdpkhmeldaaDoor
open Go.RowKit

theorem NatV.zeroR (w : World) : NatV w .i64 R15 (.slice none 0 0) 0 := by
  refine ⟨none, 0, ?_, ?_, ?_⟩
  · rw [digs_zero]; rfl
  · rw [digs_zero]; simp
  · rw [digs_zero]; intro i hi; simp at hi

theorem NatV.litR (w : World) (d : Nat) (hd : d < 32768) : NatV (w.alloc (Obj.cells #[.int .i64 d] 3)) .i64 R15 (.slice (some ⟨w.heap.size, 0, none⟩) (digs R15 d).length 1) d := by
  have hb := Blk.lit w 3 .i64 #[.int .i64 (d : Int)] [d] rfl
  rcases Nat.eq_zero_or_pos d with rfl | h
  · refine ⟨some ⟨w.heap.size, 0, none⟩, 1, rfl, by rw [digs_zero]; simp, ?_⟩
    rw [digs_zero]; intro i hi; simp at hi
  · have e : digs R15 d = [d] := by
      rw [digs_pos R15 d R15_ge h, Nat.mod_eq_of_lt (by unfold R15; omega), Nat.div_eq_of_lt (by unfold R15; omega), digs_zero]
    refine ⟨some ⟨w.heap.size, 0, none⟩, 1, rfl, by rw [e]; simp, ?_⟩
    rw [e]
    exact hb.rd

theorem digs1 : (digs R15 1).length = 1 := by
  rw [digs_pos R15 1 R15_ge (by omega), Nat.div_eq_of_lt (by unfold R15; omega), digs_zero]; rfl

theorem lenR_le (m n : Nat) (h : m ≤ n) (L : Nat) (hn : (digs R15 n).length ≤ L) : (digs R15 m).length ≤ L := Nat.le_trans (digs_length_mono R15 R15_ge m n h) hn

theorem lenR_blen (m n L : Nat) (hn : (digs R15 n).length ≤ L) (h : m < 2 ^ blen n) : (digs R15 m).length ≤ L := by
  rcases Nat.eq_zero_or_pos n with rfl | hp
  · rw [blen_zero] at h
    obtain rfl : m = 0 := by omega
    rw [digs_zero]; simp
  · refine digs_length_le R15 R15_ge m L ?_
    refine Nat.lt_of_lt_of_le h ?_
    rw [R15_pow]
    refine Nat.pow_le_pow_right (by omega) ?_
    have h1 := lt_pow_digs R15 R15_ge n
    rw [R15_pow] at h1
    have h2 := (Nat.pow_lt_pow_iff_right (a := 2) (by omega)).1 (Nat.lt_of_le_of_lt (blen_le n hp) h1)
    have h3 : 15 * (digs R15 n).length ≤ 15 * L := by omega
    omega

/-- how many rounds: what the first of them finds -/
theorem div_start (m d : Nat) (hd : 0 < d) (K : Nat) (hK : ((K : Int) = (blen m : Int) - (blen d : Int) + 1 ∧ 0 < K) ∨ (blen m < blen d ∧ K = 0)) : m < d * 2 ^ K := by
  have h1 := lt_blen m
  have h2 := blen_le d hd
  have h3 := blen_pos d hd
  rcases hK with ⟨h, hp⟩ | ⟨h, rfl⟩
  · have e : blen m = (blen d - 1) + K := by omega
    rw [e, Nat.pow_add] at h1
    exact Nat.lt_of_lt_of_le h1 (Nat.mul_le_mul_right _ h2)
  · rw [Nat.pow_zero, Nat.mul_one]
    refine Nat.lt_of_lt_of_le h1 (Nat.le_trans (Nat.pow_le_pow_right (by omega) ?_) h2)
    omega

/-- the divisor, shifted, is no longer than the dividend -/
theorem rdiv_len (m d : Nat) (hd : 0 < d) (K L : Nat) (hK : (K : Int) = (blen m : Int) - (blen d : Int) + 1) (hL : (digs R15 m).length ≤ L) (i : Nat) (hi : i + 1 ≤ K) : (digs R15 (d * 2 ^ i)).length ≤ L := by
  refine lenR_blen _ m L hL ?_
  have h1 := lt_blen d
  have e : blen m = blen d + (K - 1) := by
    have := blen_pos d hd; omega
  rw [e, Nat.pow_add]
  have h2 : (2 : Nat) ^ i ≤ 2 ^ (K - 1) := Nat.pow_le_pow_right (by omega) (by omega)
  have h3 : d * 2 ^ i ≤ d * 2 ^ (K - 1) := Nat.mul_le_mul_left _ h2
  have h4 : d * 2 ^ (K - 1) < 2 ^ blen d * 2 ^ (K - 1) := Nat.mul_lt_mul_of_pos_right h1 (Nat.two_pow_pos _)
  omega

/-- what is known with r rounds to go -/
def DvP (m d r q a t : Nat) : Prop := q * (d * 2 ^ r) + a = m ∧ a < d * 2 ^ r ∧ (0 < r → t * 2 = d * 2 ^ r)

theorem DvP.yes {m d r q a t : Nat} (h : DvP m d (r + 1) q a t) (ht : t ≤ a) : DvP m d r (q + q + 1) (a - t) (t / 2) := by
  obtain ⟨h1, h2, h3⟩ := h
  have h3 := h3 (by omega)
  have e : d * 2 ^ (r + 1) = d * 2 ^ r * 2 := by rw [Nat.pow_succ, Nat.mul_assoc]
  rw [e] at h1 h2 h3
  have h4 : t = d * 2 ^ r := by omega
  refine ⟨?_, by omega, fun hr => ?_⟩
  · rw [← h4] at h1 ⊢
    obtain ⟨c, rfl⟩ : ∃ c, a = t + c := ⟨a - t, by omega⟩
    rw [Nat.add_sub_cancel_left]
    grind
  · obtain ⟨s, rfl⟩ : ∃ s, r = s + 1 := ⟨r - 1, by omega⟩
    rw [Nat.pow_succ, ← Nat.mul_assoc] at h4 ⊢
    omega

theorem DvP.no {m d r q a t : Nat} (h : DvP m d (r + 1) q a t) (ht : a < t) : DvP m d r (q + q) a (t / 2) := by
  obtain ⟨h1, h2, h3⟩ := h
  have h3 := h3 (by omega)
  have e : d * 2 ^ (r + 1) = d * 2 ^ r * 2 := by rw [Nat.pow_succ, Nat.mul_assoc]
  rw [e] at h1 h2 h3
  have h4 : t = d * 2 ^ r := by omega
  refine ⟨?_, by omega, fun hr => ?_⟩
  · rw [← h4] at h1 ⊢
    grind
  · obtain ⟨s, rfl⟩ : ∃ s, r = s + 1 := ⟨r - 1, by omega⟩
    rw [Nat.pow_succ, ← Nat.mul_assoc] at h4 ⊢
    omega

theorem DvP.le {m d r q a t : Nat} (hd : 0 < d) (h : DvP m d r q a t) : q ≤ m ∧ a ≤ m := by
  obtain ⟨h1, h2, h3⟩ := h
  have : q * 1 ≤ q * (d * 2 ^ r) := Nat.mul_le_mul_left _ (Nat.mul_pos hd (Nat.two_pow_pos r))
  omega

theorem DvP.fin {m d q a t : Nat} (h : DvP m d 0 q a t) : q = m / d ∧ a = m % d := by
  obtain ⟨h1, h2, _⟩ := h
  rw [Nat.pow_zero, Nat.mul_one] at h1 h2
  have hd : 0 < d := by omega
  subst h1
  rw [Nat.mul_comm, Nat.mul_add_div hd, Nat.div_eq_of_lt h2, Nat.mul_add_mod, Nat.mod_eq_of_lt h2]
  simp

set_option maxHeartbeats 4000000 in
theorem rdiv_any (va vb : Value) (m n : Nat) (w : World) (ha : NatV w .i64 R15 va m) (hb : NatV w .i64 R15 vb n) (hma : (digs R15 m).length ≤ 10000) (hmb : (digs R15 n).length ≤ 10000) (hn : 0 < n) :
    Calls Tryd.prog 47 #[va, vb] w fun e w' => ∃ v1 v2, e = .returned (.tuple #[v1, v2]) ∧ NatV w' .i64 R15 v1 (m / n) ∧ NatV w' .i64 R15 v2 (m % n) ∧ Below w.heap.size w w' := by
  have hbm : blen m ≤ 150000 := by
    rcases Nat.eq_zero_or_pos (digs R15 m).length with h | h
    · rw [(digs_eq_nil R15 R15_ge m).1 h]; simp [blen]
    · have h2 := blen_digs m h
      have h3 := blen_15 _ (digs_ltR m _ (List.getElem_mem (show (digs R15 m).length - 1 < (digs R15 m).length by omega)))
      omega
  have hbn : blen n ≤ 150000 := by
    rcases Nat.eq_zero_or_pos (digs R15 n).length with h | h
    · rw [(digs_eq_nil R15 R15_ge n).1 h]; simp [blen]
    · have h2 := blen_digs n h
      have h3 := blen_15 _ (digs_ltR n _ (List.getElem_mem (show (digs R15 n).length - 1 < (digs R15 n).length by omega)))
      omega
  have CB1 := Lib.hid (fun wx h => rbits_any va m wx h (by omega))
  have CB2 := Lib.hid (fun wx h => rbits_any vb n wx h (by omega))
  obtain ⟨K, hK⟩ : ∃ K : Nat, ((K : Int) = (blen m : Int) - (blen n : Int) + 1 ∧ 0 < K) ∨ (blen m < blen n ∧ K = 0) := by
    by_cases h : blen m < blen n
    · exact ⟨0, .inr ⟨h, rfl⟩⟩
    · exact ⟨blen m - blen n + 1, .inl ⟨by omega, by omega⟩⟩
  have DS := Lib.hid (div_start m n hn K hK)
  have DL := Lib.hid (fun h => rdiv_len m n hn K 10000 h hma)
  have HMA := Lib.hid (fun x h => lenR_le x m h 10000 hma)
  obtain ⟨p, hp⟩ : ∃ p, p = blen m := ⟨_, rfl⟩
  obtain ⟨q, hq⟩ : ∃ q, q = blen n := ⟨_, rfl⟩
  rw [← hp] at CB1 hK DL hbm
  rw [← hq] at CB2 hK DL hbn
  clear hp hq hma
  obtain ⟨aa, ca, rfl, hca, ra⟩ := id ha
  obtain ⟨ab, cb, rfl, hcb, rb⟩ := id hb
  obtain ⟨la, hla⟩ : ∃ l, l = (digs R15 m).length := ⟨_, rfl⟩
  obtain ⟨lb, hlb⟩ : ∃ l, l = (digs R15 n).length := ⟨_, rfl⟩
  rw [← hla] at ha CB1
  rw [← hlb] at hb CB2 hmb
  rw [← hla, ← hlb]
  have HLB := Lib.hid hlb
  clear hla hlb ra rb hca hcb
  go_enter Tryd.func47, Tryd.ntmps47
  go_wp2_with (first
    | (go_at_call 58; (with_reducible refine (CB1.out _ ha).mono ?_); rintro e w1 ⟨rfl, hb1⟩; have hb' := hb.below hb1)
    | (go_at_call 58; (with_reducible refine (CB2.out _ hb').mono ?_); rintro e w2 ⟨rfl, hb2⟩))
  have nb := hb'.below hb2
  have na := (ha.below hb1).below hb2
  have hbl := hb1.trans (hb2.mono hb1.size)
  clear hb' hb1 hb2 CB1 CB2 ha hb
  go_loopw [8, 7] (fun s8 s7 wr => ∃ i : Nat, s8 = .int .i64 i ∧ (i = 0 ∨ (i + 1 ≤ K)) ∧ NatV wr .i64 R15 s7 (n * 2 ^ i) ∧ NatV wr .i64 R15 (.slice aa la ca) m ∧ Below w.heap.size w wr) (fun s8 _ _ => K - (intOf s8).toNat)
  case atStart => exact ⟨0, rfl, .inl rfl, by simpa using nb, na, hbl⟩
  case round =>
    obtain ⟨i, rfl, hi, nt, na1, hbl1⟩ := hrel
    clear nb na hbl
    by_cases hlt : i + 1 < K
    · have hg : decide ((i : Int) < (p : Int) - (q : Int)) = true := by simp; omega
      have hlen := DL.out (by omega) i (by omega)
      go_wp2_with fail
      refine (rdouble_any _ _ _ nt (by omega)).mono ?_
      rintro e w3 ⟨v3, rfl, nt3, hb3⟩
      have na3 := na1.below hb3
      go_wp2
      go_roundw
      case rel => exact ⟨i + 1, by go_num, .inr (by omega), by rw [Nat.pow_succ, show n * (2 ^ i * 2) = n * 2 ^ i + n * 2 ^ i from by grind]; exact nt3, na3, hbl1.trans (hb3.mono hbl1.size)⟩
      case measure => simp [intOf]; omega
    · have hg : decide ((i : Int) < (p : Int) - (q : Int)) = false := by simp; omega
      have hst : ∃ t, t = n * 2 ^ i ∧ DvP m n K 0 m t ∧ (digs R15 t).length ≤ 10000 := by
        refine ⟨_, rfl, ⟨by simp, DS.out, fun hp => ?_⟩, ?_⟩
        · obtain rfl : K = i + 1 := by omega
          rw [Nat.pow_succ, Nat.mul_assoc]
        · rcases hi with rfl | hi
          · rw [Nat.pow_zero, Nat.mul_one, ← HLB.out]; exact hmb
          · exact DL.out (by omega) i hi
      obtain ⟨t0, ht0, hDv, hl0⟩ := hst
      rw [← ht0] at nt
      clear ht0
      obtain ⟨w4, hw4⟩ : ∃ x : World, x = wr := ⟨_, rfl⟩
      subst hw4
      have HDV := Lib.hid hDv
      clear hDv DS hi
      go_wp2
      go_loopw [10, 9, 7, 0] (fun s10 s9 s7 s0 wr => ∃ (k r x a t : Nat), k + r = K ∧ s10 = .int .i64 k ∧ Hid (DvP m n r x a t) ∧ (digs R15 t).length ≤ 10000 ∧ NatV wr .i64 R15 s9 x ∧ NatV wr .i64 R15 s7 t ∧ NatV wr .i64 R15 s0 a ∧ Below w.heap.size w wr) (fun s10 _ _ _ _ => K - (intOf s10).toNat)
      case atStart => exact ⟨0, K, 0, m, t0, by omega, rfl, HDV, hl0, NatV.zeroR _, nt, na1, hbl1⟩
      case round =>
        obtain ⟨k, r, x, a, t, hkr, rfl, HD, hlt0, nx, nt1, na2, hbl2⟩ := hrel
        clear nt na1 hbl1 HDV
        obtain ⟨hx1, ha1⟩ := HD.out.le hn
        have hlx := HMA.out x hx1
        have hla := HMA.out a ha1
        cases r with
        | zero =>
          have hg2 : decide ((k : Int) ≤ (p : Int) - (q : Int)) = false := by simp; omega
          obtain ⟨e1, e2⟩ := HD.out.fin
          subst e1 e2
          obtain ⟨a1, c1, s1⟩ := nx.shape
          obtain ⟨a2, c2, s2⟩ := na2.shape
          subst s1 s2
          go_wp2
          go_ret2
          exact ⟨_, _, rfl, nx, na2, hbl2⟩
        | succ r =>
          have hg2 : decide ((k : Int) ≤ (p : Int) - (q : Int)) = true := by simp; omega
          obtain ⟨w5, hw5⟩ : ∃ x : World, x = wr := ⟨_, rfl⟩
          subst hw5
          go_wp2_with fail
          refine (rdouble_any _ _ _ nx (by omega)).mono ?_
          rintro e w6 ⟨v6, rfl, nx6, hb6⟩
          have nt6 := nt1.below hb6
          have na6 := na2.below hb6
          have hbl6 := hbl2.trans (hb6.mono hbl2.size)
          clear nx nt1 na2 hb6 hbl2
          go_wp2_with fail
          refine (rcmp_any _ _ a t _ na6 nt6 (by omega) (by omega)).mono ?_
          rintro e w7 ⟨rfl, hb7⟩
          have nt7 := nt6.below hb7
          have na7 := na6.below hb7
          have nx7 := nx6.below hb7
          have hbl7 := hbl6.trans (hb7.mono hbl6.size)
          clear nx6 nt6 na6 hb7 hbl6
          by_cases hta : t ≤ a
          · have hc : decide (0 ≤ cmpN a t) = true := by
              unfold cmpN; rw [if_neg (by omega)]; split <;> rfl
            have HD2 := Lib.hid (HD.out.yes hta)
            go_wp2_with fail
            refine (rsub_any _ _ a t _ na7 nt7 (by omega) hta).mono ?_
            rintro e w8 ⟨v8, rfl, na8, hb8⟩
            have nt8 := nt7.below hb8
            have nx8 := nx7.below hb8
            have hbl8 := hbl7.trans (hb8.mono hbl7.size)
            clear nx7 nt7 na7 hb8 hbl7
            have hB9 : Below w8.heap.size w8 (w8.alloc (Obj.cells #[.int .i64 1] 3)) := (Below.refl _ _).alloc (Nat.le_refl _) _
            have n1 := NatV.litR w8 1 (by omega)
            rw [digs1] at n1
            have nx9 := nx8.below hB9
            have nt9 := nt8.below hB9
            have na9 := na8.below hB9
            have hbl9 := hbl8.trans (hB9.mono hbl8.size)
            have hlxx : (digs R15 (x + x)).length ≤ 100000 := by
              have := digs_length_add R15 R15_ge x x; omega
            clear nx8 nt8 na8 hbl8 hB9
            go_wp2_with fail
            refine (radd_any _ _ (x + x) 1 _ nx9 n1 hlxx (by rw [digs1]; omega)).mono ?_
            rintro e w10 ⟨v10, rfl, nx10, hb10⟩
            have nt10 := nt9.below hb10
            have na10 := na9.below hb10
            have hbl10 := hbl9.trans (hb10.mono hbl9.size)
            clear nx9 nt9 na9 n1 hb10 hbl9
            go_wp2_with fail
            refine (rhalf_any _ t _ nt10 (by omega)).mono ?_
            rintro e w11 ⟨v11, rfl, nt11, hb11⟩
            have nx11 := nx10.below hb11
            have na11 := na10.below hb11
            have hbl11 := hbl10.trans (hb11.mono hbl10.size)
            clear nx10 nt10 na10 hb11 hbl10
            go_wp2
            go_roundw
            case rel => exact ⟨k + 1, r, x + x + 1, a - t, t / 2, by omega, by go_num, HD2, lenR_le _ t (Nat.div_le_self _ _) _ hlt0, nx11, nt11, na11, hbl11⟩
            case measure => simp [intOf]; omega
          · have hc : decide (0 ≤ cmpN a t) = false := by
              rw [cmpN_lt (by omega)]; rfl
            have HD2 := Lib.hid (HD.out.no (by omega))
            go_wp2_with fail
            refine (rhalf_any _ t _ nt7 (by omega)).mono ?_
            rintro e w11 ⟨v11, rfl, nt11, hb11⟩
            have nx11 := nx7.below hb11
            have na11 := na7.below hb11
            have hbl11 := hbl7.trans (hb11.mono hbl7.size)
            clear nx7 nt7 na7 hb11 hbl7
            go_wp2
            go_roundw
            case rel => exact ⟨k + 1, r, x + x, a, t / 2, by omega, by go_num, HD2, lenR_le _ t (Nat.div_le_self _ _) _ hlt0, nx11, nt11, na11, hbl11⟩
            case measure => simp [intOf]; omega

/-- the number that a slice of digits stands for -/
noncomputable def numOfR (w : World) (v : Value) : Nat := by
  classical exact if h : ∃ n, NatV w .i64 R15 v n then h.choose else 0

theorem NatV.injR {w : World} {v : Value} {m n : Nat} (h1 : NatV w .i64 R15 v m) (h2 : NatV w .i64 R15 v n) : m = n := by
  obtain ⟨a, c, rfl, _, r1⟩ := h1
  obtain ⟨a', c', e, _, r2⟩ := h2
  simp only [Value.slice.injEq] at e
  obtain ⟨rfl, hl, rfl⟩ := e
  have : digs R15 m = digs R15 n := by
    apply List.ext_getElem hl
    intro i h1 h2
    obtain ⟨b, o, e1, _, c1⟩ := r1 i h1
    obtain ⟨b', o', e2, _, c2⟩ := r2 i h2
    rw [e1] at e2
    simp only [Option.some.injEq, Addr.mk.injEq, and_true] at e2
    obtain ⟨rfl, rfl⟩ := e2
    rw [c1] at c2
    simp only [Option.some.injEq, Value.int.injEq, true_and] at c2
    omega
  rw [← val_digs R15 R15_ge m, this, val_digs R15 R15_ge n]

theorem numOfR_eq {w : World} {v : Value} {n : Nat} (h : NatV w .i64 R15 v n) : numOfR w v = n := by
  unfold numOfR
  rw [dif_pos ⟨n, h⟩]
  exact NatV.injR (Exists.choose_spec (p := fun n => NatV w .i64 R15 v n) ⟨n, h⟩) h

set_option maxHeartbeats 1000000 in
theorem rgcdN_any (va vb : Value) (m n : Nat) (w : World) (ha : NatV w .i64 R15 va m) (hb : NatV w .i64 R15 vb n) (hma : (digs R15 m).length ≤ 10000) (hmb : (digs R15 n).length ≤ 10000) :
    Calls Tryd.prog 46 #[va, vb] w fun e w' => ∃ v, e = .returned v ∧ NatV w' .i64 R15 v (Nat.gcd m n) ∧ Below w.heap.size w w' := by
  go_enter Tryd.func46, Tryd.ntmps46
  go_wp2
  go_loopw [0, 1] (fun s0 s1 wr => ∃ a b : Nat, NatV wr .i64 R15 s0 a ∧ NatV wr .i64 R15 s1 b ∧ Nat.gcd a b = Nat.gcd m n ∧ (digs R15 a).length ≤ 10000 ∧ (digs R15 b).length ≤ 10000 ∧ Below w.heap.size w wr) (fun _ s1 wr => numOfR wr s1)
  case atStart => exact ⟨m, n, ha, hb, rfl, hma, hmb, Below.refl _ _⟩
  case round =>
    obtain ⟨a, b, na, nb, hg, hla, hlb, hbl⟩ := hrel
    have HG := Lib.hid hg
    have hm1 := numOfR_eq nb
    have HM1 := Lib.hid hm1
    clear hg ha hb hm1
    rcases Nat.eq_zero_or_pos b with rfl | hbp
    · obtain ⟨ab, cb, rfl, hcb, rb⟩ := id nb
      rw [digs_zero]
      go_wp2
      go_ret
      have := HG.out
      rw [Nat.gcd_zero_right] at this
      subst this
      exact ⟨_, rfl, na, hbl⟩
    · obtain ⟨ab, cb, rfl, hcb, rb⟩ := id nb
      have hlp : 0 < (digs R15 b).length := by
        apply Nat.pos_of_ne_zero; intro e; rw [digs_eq_nil R15 R15_ge] at e; omega
      obtain ⟨lb, hlb2⟩ : ∃ lb, lb = (digs R15 b).length := ⟨_, rfl⟩
      rw [← hlb2] at hlp hlb nb HM1
      rw [← hlb2]
      have HLB := Lib.hid hlb2
      clear hlb2 rb hcb
      go_wp2_with fail
      refine (rdiv_any _ _ a b _ na nb hla (by rw [← HLB.out]; exact hlb) hbp).mono ?_
      rintro e w1 ⟨v1, v2, rfl, n1, n2, hb1⟩
      have nb1 := nb.below hb1
      have hmod : a % b < b := Nat.mod_lt _ hbp
      have hm2 := numOfR_eq n2
      have HM2 := Lib.hid hm2
      clear hm2
      go_wp2
      go_roundw
      case rel =>
        refine ⟨b, a % b, nb1, n2, ?_, by rw [← HLB.out]; exact hlb, ?_, hbl.trans (hb1.mono hbl.size)⟩
        · rw [← HG.out, Nat.gcd_comm a b, Nat.gcd_rec b a, Nat.gcd_comm]
        · exact Nat.le_trans (digs_length_mono R15 R15_ge _ _ (Nat.le_of_lt hmod)) (by rw [← HLB.out]; exact hlb)
      case measure =>
        show numOfR _ _ < numOfR _ _
        have e1 := HM1.out; have e2 := HM2.out
        rw [e1, e2]; exact hmod

set_option maxHeartbeats 400000 in
theorem rpart_any (a : Int) (w : World) (h : I64 a) :
    Calls Tryd.prog 49 #[.int .i64 a] w fun e w' => ∃ v, e = .returned v ∧ NatV w' .i64 R15 v a.natAbs ∧ Below w.heap.size w w' := by
  obtain ⟨h1, h2⟩ := h
  have C := Lib.hid (fun wx => rnat_any a.natAbs wx (by omega))
  obtain ⟨n, hn⟩ : ∃ n, n = a.natAbs := ⟨_, rfl⟩
  rw [← hn] at C ⊢
  by_cases hneg : a < 0
  · obtain rfl : a = -(n : Int) := by omega
    have hn0 : 0 < n := by omega
    clear hn
    go_enter Tryd.func49, Tryd.ntmps49
    go_wp2_with fail
    rw [show (-(-(n : Int) + 1) + 1) = (n : Int) from by omega]
    refine (C.out _).mono ?_
    rintro e w1 ⟨v, rfl, hv, hb⟩
    go_wp2
    go_ret
    exact ⟨_, rfl, hv, hb⟩
  · obtain rfl : a = (n : Int) := by omega
    clear hn
    have e1 : decide ((n : Int) < 0) = false := by simp
    go_enter Tryd.func49, Tryd.ntmps49
    go_wp2_with fail
    refine (C.out _).mono ?_
    rintro e w1 ⟨v, rfl, hv, hb⟩
    go_wp2
    go_ret
    exact ⟨_, rfl, hv, hb⟩

theorem lenR_62 (n : Nat) (h : n ≤ 4611686018427387904) : (digs R15 n).length ≤ 5 := digs_length_le R15 R15_ge _ 5 (by unfold R15; omega)

theorem val_drop_le (B : Nat) (xs : List Nat) (i : Nat) (hB : 0 < B) : val B (xs.drop i) ≤ val B xs := by
  have h := val_append B (xs.take i) (xs.drop i)
  rw [List.take_append_drop] at h
  have : 1 * val B (xs.drop i) ≤ B ^ (xs.take i).length * val B (xs.drop i) := Nat.mul_le_mul_right _ (Nat.pow_pos hB)
  omega

set_option maxHeartbeats 1000000 in
theorem rnumber_any (va : Value) (m : Nat) (w : World) (ha : NatV w .i64 R15 va m) (hl : (digs R15 m).length ≤ 10000) :
    Calls Tryd.prog 48 #[va] w fun e w' => (∃ b : Bool, e = .returned (.tuple #[.int .i64 (if m ≤ P62 then (m : Int) else 0), .bool b]) ∧ b = decide (m ≤ P62)) ∧ Below w.heap.size w w' := by
  have CN : Hid (∀ wx, Calls Tryd.prog 62 #[.int .u64 4611686018427387904] wx fun e w' => ∃ v, e = .returned v ∧ NatV w' .i64 R15 v 4611686018427387904 ∧ Below wx.heap.size wx w') := Lib.hid (fun wx => rnat_any 4611686018427387904 wx (by omega))
  have hl62 := lenR_62 4611686018427387904 (by omega)
  have CC := Lib.hid (fun vx wx h1 h2 => rcmp_any va vx m 4611686018427387904 wx h1 h2 (by omega) (by omega))
  by_cases h : m ≤ P62
  · rw [if_pos h]
    unfold P62 at h
    have hc : decide (0 < cmpN m 4611686018427387904) = false := by
      unfold cmpN; split
      · rfl
      · rw [if_neg (by omega)]; rfl
    obtain ⟨aa, ca, rfl, hca, ra⟩ := id ha
    have va := val_digs R15 R15_ge m
    have la := digs_ltR m
    obtain ⟨xs, hxs⟩ : ∃ xs, xs = digs R15 m := ⟨_, rfl⟩
    obtain ⟨L, hL⟩ : ∃ L, L = xs.length := ⟨_, rfl⟩
    rw [← hxs] at va la ra hl CC
    rw [← hxs]
    rw [← hxs, ← hL] at hca
    rw [← hL] at CC hl
    rw [← hL]
    have ha' : NatV w .i64 R15 (.slice aa L ca) m := by rw [hL, hxs]; exact ⟨aa, ca, rfl, by rw [← hxs, ← hL]; exact hca, by rw [← hxs]; exact ra⟩
    have VA := Lib.hid va; have LA := Lib.hid la; have HL := Lib.hid hL
    have RA := Lib.hid ra
    clear va la hxs ra ha hL
    go_enter Tryd.func48, Tryd.ntmps48
    go_wp2_with (first
      | (go_at_call 62; (with_reducible refine (CN.out _).mono ?_); rintro e w1 ⟨v1, rfl, n1, hb1⟩; have na1 := ha'.below hb1; obtain ⟨a1, c1, s1⟩ := n1.shape; subst s1)
      | (go_at_call 45; (with_reducible refine (CC.out _ _ na1 n1).mono ?_); rintro e w2 ⟨rfl, hb2⟩))
    have hbl := hb1.trans (hb2.mono hb1.size)
    clear CN CC ha' na1 n1 hb1 hb2
    go_loopw [5, 4] (fun s5 s4 wr => ∃ i : Nat, i ≤ L ∧ s5 = .int .i64 ((i : Int) - 1) ∧ s4 = .int .i64 (val R15 (xs.drop i) : Nat) ∧ Below w.heap.size w wr) (fun s5 _ _ => (intOf s5 + 1).toNat)
    case atStart => exact ⟨L, by omega, rfl, by rw [HL.out, List.drop_eq_nil_of_le (Nat.le_refl _)]; rfl, hbl⟩
    case round =>
      obtain ⟨i, hi, rfl, rfl, hbl1⟩ := hrel
      clear hbl
      cases i with
      | zero =>
        go_wp2
        go_ret2
        refine ⟨⟨true, ?_, by rw [decide_eq_true]; exact h⟩, hbl1⟩
        have := VA.out
        rw [List.drop_zero, this]
        rfl
      | succ i =>
        have hi' : i < xs.length := by have := HL.out; omega
        obtain ⟨b1, o1, e1, hb1, hc1⟩ := RA.out i hi'
        rw [← hbl1.cell (p := ⟨b1, o1 + i, none⟩) hb1] at hc1
        subst e1
        have hle := val_drop_le R15 xs i (by unfold R15; omega)
        rw [VA.out] at hle
        have hdv := drop_val R15 xs i hi'
        have hx := LA.out _ (List.getElem_mem hi')
        obtain ⟨x, hx'⟩ : ∃ x, x = xs[i] := ⟨_, rfl⟩
        rw [← hx'] at hc1 hdv hx
        obtain ⟨u, hu⟩ : ∃ u, u = val R15 (xs.drop (i + 1)) := ⟨_, rfl⟩
        obtain ⟨v, hv⟩ : ∃ v, v = val R15 (xs.drop i) := ⟨_, rfl⟩
        rw [← hu, ← hv] at hdv
        rw [← hv] at hle
        rw [← hu]
        have HV := Lib.hid hv
        have hR : R15 * u = u * 32768 := by rw [Nat.mul_comm]; rfl
        have hb2 : u * 32768 + x ≤ 4611686018427387904 := by omega
        have HDV := Lib.hid hdv
        have HR := Lib.hid hR
        clear hu hv hx' hdv hle hR
        rw [show (((i + 1 : Nat) : Int) - 1) = (i : Int) from by omega]
        go_wp2
        go_roundw
        case rel => exact ⟨i, by omega, rfl, by rw [← HV.out, HDV.out, HR.out]; congr 1; omega, hbl1⟩
        case measure => simp [intOf]
  · rw [if_neg h]
    unfold P62 at h
    have hc : decide (0 < cmpN m 4611686018427387904) = true := by
      rw [cmpN_gt (by omega)]; rfl
    obtain ⟨aa, ca, s0⟩ := ha.shape
    obtain ⟨L, hL⟩ : ∃ L, L = (digs R15 m).length := ⟨_, rfl⟩
    rw [← hL] at s0 hl
    subst s0
    clear hL
    go_enter Tryd.func48, Tryd.ntmps48
    go_wp2_with (first
      | (go_at_call 62; (with_reducible refine (CN.out _).mono ?_); rintro e w1 ⟨v1, rfl, n1, hb1⟩; have na1 := ha.below hb1; obtain ⟨a1, c1, s1⟩ := n1.shape; subst s1)
      | (go_at_call 45; (with_reducible refine (CC.out _ _ na1 n1).mono ?_); rintro e w2 ⟨rfl, hb2⟩))
    go_ret2
    refine ⟨⟨false, rfl, ?_⟩, hb1.trans (hb2.mono hb1.size)⟩
    rw [decide_eq_false]; unfold P62; omega

end Go.Proofs.YtpjjbdpkhmeldaaDoor
