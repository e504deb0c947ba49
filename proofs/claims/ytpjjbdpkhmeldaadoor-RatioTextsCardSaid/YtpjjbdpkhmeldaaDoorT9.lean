/- contracts of both Parses -/
import Derived.Test.YtpjjbdpkhmeldaaDoorT4
import Derived.Test.YtpjjbdpkhmeldaaDoorT8
import Derived.Lib.IndexBytes
namespace Go.Proofs.YtpjjbdpkhmeldaaDoor
open Go.RowKit

theorem goodP_iff (l : List UInt8) : goodP l = true ↔ okD (numP l) = true ∧ ¬ (negP l = true ∧ readV (numP l) = 0) ∧ (tailP l = [] ∨ (okD ((tailP l).drop 1) = true ∧ 1 < readV ((tailP l).drop 1) ∧ Nat.gcd (readV (numP l)) (readV ((tailP l).drop 1)) = 1)) := by
  unfold goodP
  simp only [Bool.and_eq_true, Bool.not_eq_true', Bool.or_eq_true, decide_eq_true_eq, Bool.and_eq_false_iff, decide_eq_false_iff_not]
  constructor
  · rintro ⟨h1, h2, h3⟩
    refine ⟨h1, ?_, h3⟩
    rintro ⟨a, b⟩
    rcases h2 with h2 | h2
    · rw [a] at h2; cases h2
    · exact h2 b
  · rintro ⟨h1, h2, h3⟩
    refine ⟨h1, ?_, h3⟩
    rcases Bool.eq_false_or_eq_true (negP l) with h | h
    · right; exact fun e => h2 ⟨h, e⟩
    · left; exact h

theorem parseS_bad {l : List UInt8} (h : ¬ goodP l = true) : parseS l = (0, 0, 3) := by
  unfold parseS; rw [if_neg (fun e => h e.2)]
theorem parseS_long {l : List UInt8} (h : 40 < l.length) : parseS l = (0, 0, 3) := by
  unfold parseS; rw [if_neg (fun e => by omega)]
theorem parseS_good {l : List UInt8} (hl : l.length ≤ 40) (h : goodP l = true) : parseS l = ratioS (negP l) (readN (numP l)) (denV l) := by
  unfold parseS; rw [if_pos ⟨hl, h⟩]

def bsOf (l : List UInt8) : ByteArray := ⟨l.toArray⟩
theorem bsOf_list (l : List UInt8) : (bsOf l).data.toList = l := rfl
theorem bsOf_size (l : List UInt8) : (bsOf l).size = l.length := by rw [← sz_len]; rfl

theorem restP_len (l : List UInt8) : (restP l).length ≤ l.length := by unfold restP; split <;> simp
theorem numP_len (l : List UInt8) : (numP l).length ≤ l.length := Nat.le_trans (tw_len_le _) (restP_len l)
theorem tailP_len (l : List UInt8) : ((tailP l).drop 1).length ≤ l.length := by
  have h : (tailP l).length ≤ (restP l).length := by
    unfold tailP
    have := congrArg List.length (List.takeWhile_append_dropWhile (p := (· != (47 : UInt8))) (l := restP l))
    rw [List.length_append] at this
    omega
  have := restP_len l
  simp
  omega

theorem digF_of {l : List UInt8} (hl : l.length ≤ 40) (h : okD l = false) : Hid (DigF (bsOf l)) := Lib.hid (fun wx => by
  refine (digits_any (bsOf l) wx (by rw [bsOf_size]; omega)).mono ?_
  rintro e w' ⟨v, b, rfl, hb, h1, h2, h3⟩
  rw [bsOf_list, h] at hb
  subst hb
  rw [h2 rfl]
  exact ⟨rfl, h3⟩)
theorem digT_of {l : List UInt8} (hl : l.length ≤ 40) (h : okD l = true) : Hid (DigT (bsOf l) (readV l)) := Lib.hid (fun wx => by
  refine (digits_any (bsOf l) wx (by rw [bsOf_size]; omega)).mono ?_
  rintro e w' ⟨v, b, rfl, hb, h1, h2, h3⟩
  rw [bsOf_list, h] at hb
  subst hb
  have hn := h1 rfl
  rw [bsOf_list] at hn
  obtain ⟨a, c, e⟩ := hn.shape
  subst e
  exact ⟨⟨a, c, rfl, hn⟩, h3⟩)

theorem parse_any (s : ByteArray) (w : World) (hE : Env w) : Calls Tryd.prog 6 #[.string s] w fun e w' => e = RatE (parseS s.data.toList) ∧ Below w.heap.size w w' := by
  by_cases h40 : 40 < s.size
  · rw [parseS_long (by rw [sz_len]; exact h40)]
    exact parse_long s w h40
  have hs : s.size ≤ 40 := by omega
  obtain ⟨l, hl⟩ : ∃ l, l = s.data.toList := ⟨_, rfl⟩
  have hll : l.length ≤ 40 := by rw [hl, sz_len]; exact hs
  rw [← hl]
  have CP : Hid (CutC s (bsOf (restP l)) (negP l)) := Lib.hid (fun wx => by
    refine (Tryd.strings_CutPrefix s ⟨#[45]⟩ wx).mono ?_
    rintro e w' ⟨rfl, rfl⟩
    have h := prefix45 l
    rw [← hl]
    have e1 : (⟨#[45]⟩ : ByteArray).data.toList = [45] := rfl
    rw [e1, h.1, h.2]
    exact ⟨rfl, rfl⟩)
  have CC : Hid (SplC (bsOf (restP l)) (bsOf (numP l)) (bsOf ((tailP l).drop 1)) (decide (tailP l ≠ []))) := Lib.hid (fun wx hx => by
    obtain ⟨_, ⟨m, hm⟩, _⟩ := hx
    have hr := restP_len l
    refine (Tryd.strings_Cut (bsOf (restP l)) ⟨#[47]⟩ m wx (by rw [bsOf_size]; omega) hm).mono ?_
    rintro e w' ⟨rfl, k, rfl⟩
    have e1 : (⟨#[47]⟩ : ByteArray).data.toList = [47] := rfl
    rw [bsOf_list, e1, cut47]
    exact ⟨rfl, below_drewN (Below.refl _ _) k⟩)
  have hnl := numP_len l
  have htl := tailP_len l
  rcases (Bool.eq_false_or_eq_true (okD (numP l))).symm with ho | ho
  · rw [parseS_bad (fun h => by rw [goodP_iff, ho] at h; exact absurd h.1 (by simp))]
    exact parse_e1 s _ _ _ _ _ w hs hE CP CC (digF_of (by omega) ho)
  have D1 := digT_of (by omega) ho
  have hm7 := readV_len (numP l) (okD_dig ho) (by omega)
  have hN := okD_readN ho
  obtain ⟨m, hm⟩ : ∃ m, m = readV (numP l) := ⟨_, rfl⟩
  rw [← hm] at D1 hm7 hN
  by_cases hz : negP l = true ∧ m = 0
  · rw [parseS_bad (fun h => by rw [goodP_iff] at h; exact h.2.1 ⟨hz.1, by rw [← hm]; exact hz.2⟩)]
    rw [hz.1] at CP
    exact parse_e2 s _ _ _ _ w hs hE CP CC m D1 (by omega) (by rw [hz.2, digs_zero]; rfl)
  have hzl : negP l = true → (digs W32 m).length ≠ 0 := by
    intro h e
    refine hz ⟨h, ?_⟩
    rcases Nat.eq_zero_or_pos m with h0 | h0
    · exact h0
    · rw [digs_pos W32 m W32_ge h0] at e; simp at e
  by_cases ht : tailP l = []
  · have hd : decide (tailP l ≠ []) = false := decide_eq_false (fun h => h ht)
    rw [hd] at CC
    have hg : goodP l = true := by rw [goodP_iff]; exact ⟨ho, fun h => hz ⟨h.1, by rw [hm]; exact h.2⟩, .inl ht⟩
    have hdv : denV l = 1 := by unfold denV; rw [if_pos ht]
    rw [parseS_good hll hg, hdv, hN]
    rcases Bool.eq_false_or_eq_true (negP l) with hn | hn
    · rw [hn] at CP ⊢
      exact parse_kt s _ _ _ w hs hE CP CC m D1 (by omega) (hzl hn)
    · rw [hn] at CP ⊢
      exact parse_kf s _ _ _ w hs hE CP CC m D1 (by omega)
  have hd : decide (tailP l ≠ []) = true := decide_eq_true ht
  rw [hd] at CC
  rcases (Bool.eq_false_or_eq_true (okD ((tailP l).drop 1))).symm with ho2 | ho2
  · rw [parseS_bad (fun h => by
      rw [goodP_iff] at h
      rcases h.2.2 with h | h
      · exact ht h
      · rw [ho2] at h; exact absurd h.1 (by simp))]
    have D2 := digF_of (by omega) ho2
    rcases Bool.eq_false_or_eq_true (negP l) with hn | hn
    · rw [hn] at CP
      exact parse_ft s _ _ _ w hs hE CP CC m D1 (by omega) (hzl hn) D2
    · rw [hn] at CP
      exact parse_ff s _ _ _ w hs hE CP CC m D1 (by omega) D2
  have D2 := digT_of (by omega) ho2
  have hn7 := readV_len ((tailP l).drop 1) (okD_dig ho2) (by omega)
  have hN2 := okD_readN ho2
  obtain ⟨n, hnn⟩ : ∃ n, n = readV ((tailP l).drop 1) := ⟨_, rfl⟩
  rw [← hnn] at D2 hn7 hN2
  by_cases h1 : n ≤ 1
  · rw [parseS_bad (fun h => by
      rw [goodP_iff] at h
      rcases h.2.2 with h | h
      · exact ht h
      · have := h.2.1; omega)]
    rcases Bool.eq_false_or_eq_true (negP l) with hn | hn
    · rw [hn] at CP
      exact parse_gt s _ _ _ w hs hE CP CC m D1 (by omega) (hzl hn) n D2 (by omega) h1
    · rw [hn] at CP
      exact parse_gf s _ _ _ w hs hE CP CC m D1 (by omega) n D2 (by omega) h1
  by_cases hg : Nat.gcd m n = 1
  · have hgd : goodP l = true := by rw [goodP_iff]; exact ⟨ho, fun h => hz ⟨h.1, by rw [hm]; exact h.2⟩, .inr ⟨ho2, by omega, by rw [← hm, ← hnn]; exact hg⟩⟩
    have hdv : denV l = n := by unfold denV; rw [if_neg ht, hN2]
    rw [parseS_good hll hgd, hdv, hN]
    rcases Bool.eq_false_or_eq_true (negP l) with hn | hn
    · rw [hn] at CP ⊢
      exact parse_mt s _ _ _ w hs hE CP CC m D1 (by omega) (hzl hn) n D2 (by omega) (by omega) hg
    · rw [hn] at CP ⊢
      exact parse_mf s _ _ _ w hs hE CP CC m D1 (by omega) n D2 (by omega) (by omega) hg
  · rw [parseS_bad (fun h => by
      rw [goodP_iff] at h
      rcases h.2.2 with h | h
      · exact ht h
      · rw [← hm, ← hnn] at h; exact hg h.2.2)]
    rcases Bool.eq_false_or_eq_true (negP l) with hn | hn
    · rw [hn] at CP
      exact parse_ht s _ _ _ w hs hE CP CC m D1 (by omega) (hzl hn) n D2 (by omega) (by omega) hg
    · rw [hn] at CP
      exact parse_hf s _ _ _ w hs hE CP CC m D1 (by omega) n D2 (by omega) (by omega) hg

theorem readN_lt (l : List UInt8) : readN l < 10 ^ l.length := by
  unfold readN
  split
  · exact readV_lt l (by assumption)
  · exact Nat.pow_pos (by omega)
theorem small_facts (l : List UInt8) (hl : l.length ≤ 40) (p : Nat) (hp : p ≤ readN l) : (digs R15 p).length ≤ 14 ∧ (Lib.decDigits p).length ≤ 100 := by
  have h1 := readN_lt l
  have h2 : 10 ^ l.length ≤ 10 ^ 60 := Nat.pow_le_pow_right (by omega) (by omega)
  have h3 : (10 : Nat) ^ 60 < R15 ^ 14 := by decide +kernel
  refine ⟨digs_length_le R15 R15_ge _ 14 (by omega), ?_⟩
  rw [Lib.decDigits_length]
  have := nDigits_le p 60 (Nat.lt_of_lt_of_le (show p < 10 ^ 60 by omega) (Nat.pow_le_pow_right (by omega) (by omega)))
  omega

theorem readC_of (sN : ByteArray) (l : List UInt8) (h : sN.data.toList = l) (hl : l.length ≤ 40) : Hid (ReadC sN (readN l)) := Lib.hid (fun wx => by
  refine (rread_any sN wx (by rw [← sz_len, h]; omega)).mono ?_
  rintro e w' ⟨v, rfl, hn, hb⟩
  rw [h] at hn
  obtain ⟨a, c, e⟩ := hn.shape
  subst e
  exact ⟨⟨a, c, rfl, hn⟩, hb⟩)

theorem rparse_any (s : ByteArray) (w : World) : Calls Tryd.prog 7 #[.string s] w fun e w' => e = RatE (parseS s.data.toList) ∧ Below w.heap.size w w' := by
  by_cases h40 : 40 < s.size
  · rw [parseS_long (by rw [sz_len]; exact h40)]
    exact rparse_long s w h40
  have hs : s.size ≤ 40 := by omega
  obtain ⟨l, hl⟩ : ∃ l, l = s.data.toList := ⟨_, rfl⟩
  have hll : l.length ≤ 40 := by rw [hl, sz_len]; exact hs
  have hsz : l.length = s.size := by rw [hl, sz_len]
  obtain ⟨q1, q2, q3, q4, q5⟩ := slash_parts l
  obtain ⟨sl, hsl⟩ : ∃ sl, sl = ffrom l 0 := ⟨_, rfl⟩
  rw [← hsl] at q1 q2 q3 q4 q5
  have HSL : Hid (sl = ffrom s.data.toList 0) := Lib.hid (by rw [← hl]; exact hsl)
  have hnl := numP_len l
  have htl := tailP_len l
  have RN : Hid (ReadC (s.extract (frP l) sl) (readN (numP l))) := readC_of _ _ (by rw [extract_mid, ← hl]; exact q3) (by omega)
  have RD : Hid (ReadC (s.extract (sl + 1) s.size) (readN ((tailP l).drop 1))) := readC_of _ _ (by rw [Lib.extract_to_end, ← hl]; exact q5) (by omega)
  rw [← hl]
  obtain ⟨m, hm⟩ : ∃ m, m = readN (numP l) := ⟨_, rfl⟩
  obtain ⟨n, hn⟩ : ∃ n, n = denV l := ⟨_, rfl⟩
  have hrg := ref_good l
  rw [← hm, ← hn] at hrg
  have hm14 := fun p (hp : p ≤ m) => small_facts (numP l) (by omega) p (by rw [← hm]; exact hp)
  have hn14 : ∀ p, p ≤ n → (digs R15 p).length ≤ 14 ∧ (Lib.decDigits p).length ≤ 100 := by
    intro p hp
    by_cases ht : tailP l = []
    · have h1 : n = 1 := by rw [hn]; unfold denV; rw [if_pos ht]
      refine ⟨digs_length_le R15 R15_ge _ 14 (Nat.lt_of_le_of_lt hp (by rw [h1]; decide +kernel)), ?_⟩
      exact dec_len p (by omega)
    · have h1 : n = readN ((tailP l).drop 1) := by rw [hn]; unfold denV; rw [if_neg ht]
      exact small_facts ((tailP l).drop 1) (by omega) p (by rw [← h1]; exact hp)
  rw [← hm] at RN
  have hA := hm14 m (Nat.le_refl _)
  have hB := hn14 n (Nat.le_refl _)
  have hC := hm14 (m / Nat.gcd m n) (Nat.div_le_self _ _)
  have hD := hn14 (n / Nat.gcd m n) (Nat.div_le_self _ _)
  have LW : 0 < n → Hid (LowC (negP l) m n (lowS (negP l) m n).1 (lowS (negP l) m n).2.1 (lowS (negP l) m n).2.2) := fun h0 => Lib.hid (fun v wx h => rlowest_any v (negP l) m n wx h (by omega) (by omega) h0)
  have TX : Hid (TexC (lowS (negP l) m n).1 (lowS (negP l) m n).2.1 (lowS (negP l) m n).2.2 (textS (lowS (negP l) m n).1 (lowS (negP l) m n).2.1 (lowS (negP l) m n).2.2)) := Lib.hid (fun v wx h => rtext_any v _ _ _ wx h (show (digs R15 (m / Nat.gcd m n)).length ≤ 1000 by omega) (show (digs R15 (n / Nat.gcd m n)).length ≤ 1000 by omega) hC.2 hD.2)
  have NR : 0 < n → Hid (NarC (negP l) m n) := fun h0 => Lib.hid (fun v wx h => rnarrow_any v (negP l) m n wx h (by omega) (by omega) h0)
  obtain ⟨t, htt⟩ : ∃ t, t = textS (lowS (negP l) m n).1 (lowS (negP l) m n).2.1 (lowS (negP l) m n).2.2 := ⟨_, rfl⟩
  rw [← htt] at TX hrg
  obtain ⟨x, hx⟩ : ∃ x, x = (lowS (negP l) m n).1 := ⟨_, rfl⟩
  obtain ⟨p, hp⟩ : ∃ p, p = (lowS (negP l) m n).2.1 := ⟨_, rfl⟩
  obtain ⟨q, hq⟩ : ∃ q, q = (lowS (negP l) m n).2.2 := ⟨_, rfl⟩
  rw [← hx, ← hp, ← hq] at LW TX
  clear htt hx hp hq hA hB hC hD hm14 hn14
  have hgood : 0 < n → t = l → parseS l = ratioS (negP l) m n := fun h0 ht => by
    rw [parseS_good hll (hrg.1 ⟨h0, ht⟩), ← hm, ← hn]
  have hbad : ¬ (0 < n ∧ t = l) → parseS l = (0, 0, 3) := fun h => parseS_bad (fun g => h (hrg.2 g))
  have hneg : negP l = true → ∃ h : 0 < s.size, (s[0]'h).toNat = 45 := by
    intro h
    unfold negP at h
    have h1 : l.head? = some 45 := by simpa using h
    have h2 : 0 < s.size := by
      rw [← hsz]
      cases l with
      | nil => simp at h1
      | cons a r => simp
    refine ⟨h2, ?_⟩
    have h3 := head_at s h2
    rw [← hl, h1] at h3
    rw [← Option.some.inj h3]; rfl
  have hpos : negP l = false → (s.size = 0 ∨ ∃ h : 0 < s.size, (s[0]'h).toNat ≠ 45) := by
    intro h
    rcases Nat.eq_zero_or_pos s.size with h0 | h0
    · exact .inl h0
    · refine .inr ⟨h0, fun e => ?_⟩
      have h3 := head_at s h0
      unfold negP at h
      rw [← hl] at h3
      have : s[0] = 45 := UInt8.toNat_inj.1 e
      rw [h3, this] at h
      simp at h
  by_cases ht : tailP l = []
  · have hlt : sl = s.size := by
      have h1 : ¬ sl < l.length := fun h => (q4.1 h) ht
      omega
    have hn1 : n = 1 := by rw [hn]; unfold denV; rw [if_pos ht]
    have h0 : 0 < n := by omega
    by_cases hr : t = l
    · rw [hgood h0 hr]
      have HT : Hid (t = s.data.toList) := Lib.hid (by rw [← hl]; exact hr)
      rcases Bool.eq_false_or_eq_true (negP l) with hg | hg
      · have hfr : frP l = 1 := by unfold frP; rw [hg]; rfl
        rw [hfr] at q1 RN
        obtain ⟨a1, a2⟩ := hneg hg
        have L0 := LW h0; have N0 := NR h0
        rw [hg] at L0 N0 ⊢
        exact rparse_tng s w hs a1 a2 sl HSL q1 (by omega) hlt m n RN hn1 h0 x p q t L0 TX HT N0
      · have hfr : frP l = 0 := by unfold frP; rw [hg]; rfl
        rw [hfr] at q1 RN
        have L0 := LW h0; have N0 := NR h0
        rw [hg] at L0 N0 ⊢
        exact rparse_fng s w hs (hpos hg) sl HSL q1 (by omega) hlt m n RN hn1 h0 x p q t L0 TX HT N0
    · rw [hbad (fun h => hr h.2)]
      have HT : Hid (t ≠ s.data.toList) := Lib.hid (by rw [← hl]; exact hr)
      rcases Bool.eq_false_or_eq_true (negP l) with hg | hg
      · have hfr : frP l = 1 := by unfold frP; rw [hg]; rfl
        rw [hfr] at q1 RN
        obtain ⟨a1, a2⟩ := hneg hg
        have L0 := LW h0
        rw [hg] at L0
        exact rparse_tnb s w hs a1 a2 sl HSL q1 (by omega) hlt m n RN hn1 h0 x p q t L0 TX HT
      · have hfr : frP l = 0 := by unfold frP; rw [hg]; rfl
        rw [hfr] at q1 RN
        have L0 := LW h0
        rw [hg] at L0
        exact rparse_fnb s w hs (hpos hg) sl HSL q1 (by omega) hlt m n RN hn1 h0 x p q t L0 TX HT
  · have hlt : sl < s.size := by have := q4.2 ht; omega
    have hn1 : n = readN ((tailP l).drop 1) := by rw [hn]; unfold denV; rw [if_neg ht]
    rw [← hn1] at RD
    rcases Nat.eq_zero_or_pos n with h0 | h0
    · rw [hbad (fun h => by omega)]
      rcases Bool.eq_false_or_eq_true (negP l) with hg | hg
      · have hfr : frP l = 1 := by unfold frP; rw [hg]; rfl
        rw [hfr] at q1 RN
        obtain ⟨a1, a2⟩ := hneg hg
        exact rparse_tsz s w hs a1 a2 sl HSL q1 (by omega) hlt m n RN RD h0
      · have hfr : frP l = 0 := by unfold frP; rw [hg]; rfl
        rw [hfr] at q1 RN
        exact rparse_fsz s w hs (hpos hg) sl HSL q1 (by omega) hlt m n RN RD h0
    · by_cases hr : t = l
      · rw [hgood h0 hr]
        have HT : Hid (t = s.data.toList) := Lib.hid (by rw [← hl]; exact hr)
        rcases Bool.eq_false_or_eq_true (negP l) with hg | hg
        · have hfr : frP l = 1 := by unfold frP; rw [hg]; rfl
          rw [hfr] at q1 RN
          obtain ⟨a1, a2⟩ := hneg hg
          have L0 := LW h0; have N0 := NR h0
          rw [hg] at L0 N0 ⊢
          exact rparse_tsg s w hs a1 a2 sl HSL q1 (by omega) hlt m n RN RD h0 x p q t L0 TX HT N0
        · have hfr : frP l = 0 := by unfold frP; rw [hg]; rfl
          rw [hfr] at q1 RN
          have L0 := LW h0; have N0 := NR h0
          rw [hg] at L0 N0 ⊢
          exact rparse_fsg s w hs (hpos hg) sl HSL q1 (by omega) hlt m n RN RD h0 x p q t L0 TX HT N0
      · rw [hbad (fun h => hr h.2)]
        have HT : Hid (t ≠ s.data.toList) := Lib.hid (by rw [← hl]; exact hr)
        rcases Bool.eq_false_or_eq_true (negP l) with hg | hg
        · have hfr : frP l = 1 := by unfold frP; rw [hg]; rfl
          rw [hfr] at q1 RN
          obtain ⟨a1, a2⟩ := hneg hg
          have L0 := LW h0
          rw [hg] at L0
          exact rparse_tsb s w hs a1 a2 sl HSL q1 (by omega) hlt m n RN RD h0 x p q t L0 TX HT
        · have hfr : frP l = 0 := by unfold frP; rw [hg]; rfl
          rw [hfr] at q1 RN
          have L0 := LW h0
          rw [hg] at L0
          exact rparse_fsb s w hs (hpos hg) sl HSL q1 (by omega) hlt m n RN RD h0 x p q t L0 TX HT

end Go.Proofs.YtpjjbdpkhmeldaaDoor
