/- plain law: texts of ratios -/
import Derived.Test.YtpjjbdpkhmeldaaDoorR5
import Derived.Lib.ItoaNum
namespace Go.Proofs.YtpjjbdpkhmeldaaDoor
open Go.Lib

def isDig (b : UInt8) : Bool := decide (48 ≤ b.toNat) && decide (b.toNat ≤ 57)
def readV (l : List UInt8) : Nat := l.foldl (fun n b => n * 10 + (b.toNat - 48)) 0
def readN (l : List UInt8) : Nat := if l.all isDig then readV l else 0
def okD (l : List UInt8) : Bool := !l.isEmpty && (l.all isDig && (decide (l.head? ≠ some 48) || decide (l.length ≤ 1)))

theorem readV_snoc (l : List UInt8) (b : UInt8) : readV (l ++ [b]) = readV l * 10 + (b.toNat - 48) := by
  unfold readV; rw [List.foldl_append]; rfl

theorem dig_toNat (u : Nat) (h : u < 10) : (UInt8.ofNat (48 + u)).toNat = 48 + u := by
  rw [UInt8.toNat_ofNat']; omega

theorem dec_big (u : Nat) (h : ¬ u < 10) : decDigits u = decDigits (u / 10) ++ [UInt8.ofNat (48 + u % 10)] := by rw [decDigits, dif_neg h]

theorem dec_ne (u : Nat) : decDigits u ≠ [] := by
  by_cases h : u < 10
  · rw [decDigits_one h]; simp
  · rw [dec_big u h]; simp

theorem dec_dig (u : Nat) : (decDigits u).all isDig = true := by
  induction u using Nat.strongRecOn with
  | ind u ih =>
    by_cases h : u < 10
    · rw [decDigits_one h]
      simp [isDig]; omega
    · rw [dec_big u h, List.all_append, ih (u / 10) (by omega)]
      simp [isDig]; omega

theorem readV_dec (u : Nat) : readV (decDigits u) = u := by
  induction u using Nat.strongRecOn with
  | ind u ih =>
    by_cases h : u < 10
    · rw [decDigits_one h]
      show 0 * 10 + ((UInt8.ofNat (48 + u)).toNat - 48) = u
      rw [dig_toNat u h]; omega
    · rw [dec_big u h, readV_snoc, ih (u / 10) (by omega), dig_toNat (u % 10) (by omega)]
      omega

theorem dec_head (u : Nat) (h0 : 0 < u) : (decDigits u).head? ≠ some 48 := by
  induction u using Nat.strongRecOn with
  | ind u ih =>
    by_cases h : u < 10
    · rw [decDigits_one h]
      intro e
      have e2 : UInt8.ofNat (48 + u) = 48 := by simpa using e
      have := congrArg UInt8.toNat e2
      rw [dig_toNat u h] at this
      have e3 : (48 : UInt8).toNat = 48 := rfl
      omega
    · rw [dec_big u h, List.head?_append]
      have h1 := ih (u / 10) (by omega) (by omega)
      cases hd : (decDigits (u / 10)).head? with
      | none => exact absurd (List.head?_eq_none_iff.1 hd) (dec_ne _)
      | some x => rw [hd] at h1; simpa using h1

theorem okD_dec (u : Nat) : okD (decDigits u) = true := by
  unfold okD
  have h1 : (decDigits u).isEmpty = false := by
    cases h : decDigits u with
    | nil => exact absurd h (dec_ne u)
    | cons a l => rfl
  rw [h1, dec_dig u]
  rcases Nat.eq_zero_or_pos u with rfl | h0
  · rw [decDigits_one (by omega)]; rfl
  · simp [dec_head u h0]

theorem readV_pos : ∀ (l : List UInt8), l ≠ [] → l.all isDig = true → l.head? ≠ some 48 → 1 ≤ readV l := by
  intro l
  induction hn : l.length generalizing l with
  | zero => intro h; exact absurd (List.length_eq_zero_iff.1 hn) h
  | succ n ih =>
    intro hne hd hh
    obtain ⟨l', b, rfl⟩ : ∃ l' b, l = l' ++ [b] := ⟨l.dropLast, l.getLast hne, (List.dropLast_concat_getLast hne).symm⟩
    rw [readV_snoc]
    rw [List.all_append] at hd
    simp only [Bool.and_eq_true] at hd
    cases l' with
    | nil =>
      simp [isDig] at hd
      have hb : b ≠ 48 := by intro e; subst e; exact hh rfl
      have : b.toNat ≠ 48 := fun e => hb (UInt8.toNat_inj.1 e)
      simp [readV]; omega
    | cons a r =>
      have := ih (a :: r) (by simpa using hn) (by simp) hd.1 (by simpa using hh)
      omega

theorem dec_read : ∀ (l : List UInt8), okD l = true → decDigits (readV l) = l := by
  intro l
  induction hn : l.length generalizing l with
  | zero =>
    intro h
    have := List.length_eq_zero_iff.1 hn
    subst this
    simp [okD] at h
  | succ n ih =>
    intro h
    unfold okD at h
    simp only [Bool.and_eq_true, Bool.not_eq_true', Bool.or_eq_true, decide_eq_true_eq] at h
    obtain ⟨hne, hd, hh⟩ := h
    have hne' : l ≠ [] := by intro e; subst e; simp at hne
    obtain ⟨l', b, rfl⟩ : ∃ l' b, l = l' ++ [b] := ⟨l.dropLast, l.getLast hne', (List.dropLast_concat_getLast hne').symm⟩
    rw [List.all_append] at hd
    simp only [Bool.and_eq_true] at hd
    have hb : 48 ≤ b.toNat ∧ b.toNat ≤ 57 := by simpa [isDig] using hd.2
    have hbb : UInt8.ofNat (48 + (b.toNat - 48)) = b := by
      apply UInt8.toNat_inj.1
      rw [dig_toNat _ (by omega)]; omega
    rw [readV_snoc]
    cases l' with
    | nil =>
      have e : readV ([] : List UInt8) = 0 := rfl
      rw [e, Nat.zero_mul, Nat.zero_add, decDigits_one (by omega), hbb]; rfl
    | cons a r =>
      have hlen : ¬ (a :: r ++ [b]).length ≤ 1 := by simp
      have hh' : (a :: r).head? ≠ some 48 := by
        rcases hh with h | h
        · simpa using h
        · exact absurd h hlen
      have hp := readV_pos (a :: r) (by simp) hd.1 hh'
      have hok : okD (a :: r) = true := by
        unfold okD
        simp only [Bool.and_eq_true, Bool.not_eq_true', Bool.or_eq_true, decide_eq_true_eq]
        exact ⟨rfl, hd.1, .inl hh'⟩
      have h1 := ih (a :: r) (by simpa using hn) hok
      rw [dec_big _ (by omega), show (readV (a :: r) * 10 + (b.toNat - 48)) / 10 = readV (a :: r) from by omega, show (readV (a :: r) * 10 + (b.toNat - 48)) % 10 = b.toNat - 48 from by omega, h1, hbb]

theorem okD_dig {l : List UInt8} (h : okD l = true) : l.all isDig = true := by
  unfold okD at h
  simp only [Bool.and_eq_true] at h
  exact h.2.1

theorem okD_readN {l : List UInt8} (h : okD l = true) : readN l = readV l := by unfold readN; rw [okD_dig h]; rfl

theorem dec_not (u : Nat) (b : UInt8) (hb : isDig b = false) : b ∉ decDigits u := by
  intro h
  have := List.all_eq_true.1 (dec_dig u) b h
  rw [hb] at this; cases this

/-- the text of a fraction -/
def textS (neg : Bool) (m n : Nat) : List UInt8 := (if neg then [45] else []) ++ (decDigits m ++ (if n = 1 then [] else 47 :: decDigits n))

def showS (n d : Int) : List UInt8 := if validB n d then textS (decide (n < 0)) n.natAbs d.natAbs else []

/-- the parts of a text -/
def negP (s : List UInt8) : Bool := decide (s.head? = some 45)
def restP (s : List UInt8) : List UInt8 := if negP s then s.drop 1 else s
def numP (s : List UInt8) : List UInt8 := (restP s).takeWhile (· != 47)
def tailP (s : List UInt8) : List UInt8 := (restP s).dropWhile (· != 47)

theorem parts (s : List UInt8) : s = (if negP s then [45] else []) ++ (numP s ++ tailP s) := by
  unfold numP tailP
  rw [List.takeWhile_append_dropWhile]
  unfold restP
  by_cases h : negP s = true
  · rw [if_pos h, if_pos h]
    unfold negP at h
    cases s with
    | nil => simp at h
    | cons a r => simp at h; subst h; rfl
  · rw [if_neg h, if_neg h]; rfl

theorem tw_no (l : List UInt8) : (47 : UInt8) ∉ l.takeWhile (· != 47) := by
  induction l with
  | nil => simp
  | cons a l ih =>
    rw [List.takeWhile_cons]
    split
    · rename_i h
      intro hm
      rcases List.mem_cons.1 hm with e | e
      · rw [← e] at h; simp at h
      · exact ih e
    · simp

theorem dw_head (l : List UInt8) : l.dropWhile (· != 47) = [] ∨ ∃ d, l.dropWhile (· != 47) = 47 :: d := by
  induction l with
  | nil => exact .inl rfl
  | cons a l ih =>
    rw [List.dropWhile_cons]
    split
    · exact ih
    · rename_i h
      right
      have : a = 47 := by simpa using h
      exact ⟨l, by rw [this]⟩

theorem numP_no (s : List UInt8) : (47 : UInt8) ∉ numP s := tw_no _

theorem tailP_head (s : List UInt8) : tailP s = [] ∨ ∃ d, tailP s = 47 :: d := dw_head _

/-- a list without a 47, and what begins with one or is empty: known apart -/
theorem split_unique (a b x y : List UInt8) (ha : (47 : UInt8) ∉ a) (hb : (47 : UInt8) ∉ b) (hx : x = [] ∨ ∃ d, x = 47 :: d) (hy : y = [] ∨ ∃ d, y = 47 :: d) (h : a ++ x = b ++ y) : a = b ∧ x = y := by
  induction a generalizing b with
  | nil =>
    cases b with
    | nil => exact ⟨rfl, h⟩
    | cons c b =>
      exfalso
      rcases hx with rfl | ⟨d, rfl⟩
      · simp at h
      · simp only [List.nil_append, List.cons_append, List.cons.injEq] at h
        exact hb (by rw [← h.1]; exact List.mem_cons_self)
  | cons c a ih =>
    cases b with
    | nil =>
      exfalso
      rcases hy with rfl | ⟨d, rfl⟩
      · simp at h
      · simp only [List.nil_append, List.cons_append, List.cons.injEq] at h
        exact ha (by rw [h.1]; exact List.mem_cons_self)
    | cons c2 b =>
      simp only [List.cons_append, List.cons.injEq] at h
      obtain ⟨e1, e2⟩ := ih b (fun hh => ha (List.mem_cons_of_mem _ hh)) (fun hh => hb (List.mem_cons_of_mem _ hh)) h.2
      exact ⟨by rw [h.1, e1], e2⟩

theorem text_tail (n : Nat) : (if n = 1 then ([] : List UInt8) else 47 :: decDigits n) = [] ∨ ∃ d, (if n = 1 then ([] : List UInt8) else 47 :: decDigits n) = 47 :: d := by
  split
  · exact .inl rfl
  · exact .inr ⟨_, rfl⟩

theorem text_neg (neg : Bool) (m n : Nat) : negP (textS neg m n) = neg := by
  unfold negP textS
  cases neg
  · simp only [Bool.false_eq_true, if_false, List.nil_append]
    rw [decide_eq_false]
    intro h
    rw [List.head?_append] at h
    cases hd : (decDigits m).head? with
    | none => exact absurd (List.head?_eq_none_iff.1 hd) (dec_ne _)
    | some x =>
      rw [hd] at h
      simp at h
      subst h
      exact dec_not m 45 rfl (List.mem_of_mem_head? (by rw [hd]; rfl))
  · rfl

theorem text_parts (neg : Bool) (m n : Nat) : numP (textS neg m n) = decDigits m ∧ tailP (textS neg m n) = (if n = 1 then [] else 47 :: decDigits n) := by
  have h := parts (textS neg m n)
  rw [text_neg] at h
  have h2 : decDigits m ++ (if n = 1 then [] else 47 :: decDigits n) = numP (textS neg m n) ++ tailP (textS neg m n) := by
    conv at h => lhs; unfold textS
    exact List.append_cancel_left h
  obtain ⟨e1, e2⟩ := split_unique _ _ _ _ (dec_not m 47 rfl) (numP_no _) (text_tail n) (tailP_head _) h2
  exact ⟨e1.symm, e2.symm⟩

/-- the denominator that is read -/
def denV (s : List UInt8) : Nat := if tailP s = [] then 1 else readN ((tailP s).drop 1)

/-- is it a text of a ratio? -/
def goodP (s : List UInt8) : Bool :=
  okD (numP s) && (!(negP s && decide (readV (numP s) = 0)) && (decide (tailP s = []) || (okD ((tailP s).drop 1) && (decide (1 < readV ((tailP s).drop 1)) && decide (Nat.gcd (readV (numP s)) (readV ((tailP s).drop 1)) = 1)))))

def parseS (s : List UInt8) : Int × Int × Int := if s.length ≤ 40 ∧ goodP s = true then ratioS (negP s) (readN (numP s)) (denV s) else (0, 0, 3)

theorem good_facts {s : List UInt8} (h : goodP s = true) : readN (numP s) = readV (numP s) ∧ 0 < denV s ∧ Nat.gcd (readN (numP s)) (denV s) = 1 ∧ textS (negP s) (readN (numP s)) (denV s) = s ∧ (negP s = true → 0 < readN (numP s)) := by
  unfold goodP at h
  simp only [Bool.and_eq_true, Bool.not_eq_true', Bool.or_eq_true, decide_eq_true_eq, Bool.and_eq_false_iff, decide_eq_false_iff_not] at h
  obtain ⟨h1, h2, h3⟩ := h
  have e1 := okD_readN h1
  have hp : negP s = true → 0 < readN (numP s) := by
    intro hn
    rw [e1]
    rcases h2 with h | h
    · rw [hn] at h; cases h
    · omega
  have hs := parts s
  rcases h3 with h3 | ⟨h3, h4, h5⟩
  · have ed : denV s = 1 := by unfold denV; rw [if_pos h3]
    refine ⟨e1, by omega, by rw [ed]; exact Nat.gcd_one_right _, ?_, hp⟩
    rw [ed]
    unfold textS
    rw [if_pos rfl, e1, dec_read _ h1]
    conv => rhs; rw [hs, h3]
  · have hne : tailP s ≠ [] := by
      intro e
      rw [e] at h3
      simp [okD] at h3
    obtain ⟨d, hd⟩ := (tailP_head s).resolve_left hne
    have ed : denV s = readV ((tailP s).drop 1) := by unfold denV; rw [if_neg hne, okD_readN h3]
    refine ⟨e1, by omega, by rw [e1, ed]; exact h5, ?_, hp⟩
    rw [ed]
    unfold textS
    rw [if_neg (show ¬ readV ((tailP s).drop 1) = 1 by omega), e1, dec_read _ h1, dec_read _ h3]
    conv => rhs; rw [hs, hd]
    rw [hd]; rfl

/-- what the reference asks is the same -/
theorem ref_good (s : List UInt8) : (0 < denV s ∧ textS (lowS (negP s) (readN (numP s)) (denV s)).1 (lowS (negP s) (readN (numP s)) (denV s)).2.1 (lowS (negP s) (readN (numP s)) (denV s)).2.2 = s) ↔ goodP s = true := by
  constructor
  · rintro ⟨hd, ht⟩
    obtain ⟨p1, p2⟩ := text_parts (lowS (negP s) (readN (numP s)) (denV s)).1 (lowS (negP s) (readN (numP s)) (denV s)).2.1 (lowS (negP s) (readN (numP s)) (denV s)).2.2
    have p3 := text_neg (lowS (negP s) (readN (numP s)) (denV s)).1 (lowS (negP s) (readN (numP s)) (denV s)).2.1 (lowS (negP s) (readN (numP s)) (denV s)).2.2
    rw [ht] at p1 p2 p3
    have hg : 0 < Nat.gcd (readN (numP s)) (denV s) := Nat.gcd_pos_of_pos_right _ hd
    have d1 := Nat.gcd_dvd_left (readN (numP s)) (denV s)
    have d2 := Nat.gcd_dvd_right (readN (numP s)) (denV s)
    have hm := congrArg readV p1
    rw [readV_dec] at hm
    have hok : okD (numP s) = true := by rw [p1]; exact okD_dec _
    have e1 := okD_readN hok
    unfold lowS at hm p2 p3
    simp only [] at hm p2 p3
    rw [← e1] at hm
    unfold goodP
    simp only [Bool.and_eq_true, Bool.not_eq_true', Bool.or_eq_true, decide_eq_true_eq, Bool.and_eq_false_iff, decide_eq_false_iff_not]
    refine ⟨hok, ?_, ?_⟩
    · rcases Bool.eq_false_or_eq_true (negP s) with h | h
      · right
        rw [h, Bool.true_and] at p3
        have := of_decide_eq_true p3.symm
        rw [← e1, hm]; omega
      · exact .inl h
    · by_cases ht2 : tailP s = []
      · exact .inl ht2
      · right
        have hq : ¬ denV s / Nat.gcd (readN (numP s)) (denV s) = 1 := by
          intro e; rw [if_pos e] at p2; exact ht2 p2
        rw [if_neg hq] at p2
        have hdrop : (tailP s).drop 1 = decDigits (denV s / Nat.gcd (readN (numP s)) (denV s)) := by rw [p2]; rfl
        have hok2 : okD ((tailP s).drop 1) = true := by rw [hdrop]; exact okD_dec _
        have hv : denV s = readV ((tailP s).drop 1) := by unfold denV; rw [if_neg ht2, okD_readN hok2]
        have hv2 : readV ((tailP s).drop 1) = denV s / Nat.gcd (readN (numP s)) (denV s) := by rw [hdrop, readV_dec]
        have hg1 : Nat.gcd (readN (numP s)) (denV s) = 1 := by
          rw [← hv] at hv2
          have h3 := Nat.div_mul_cancel d2
          rw [← hv2] at h3
          have : denV s * Nat.gcd (readN (numP s)) (denV s) = denV s * 1 := by omega
          exact Nat.eq_of_mul_eq_mul_left hd this
        refine ⟨hok2, ?_, ?_⟩
        · rw [← hv]
          rw [hg1, Nat.div_one] at hq
          omega
        · rw [← hv, ← e1]; exact hg1
  · intro h
    obtain ⟨e1, hd, hg, ht, hp⟩ := good_facts h
    refine ⟨hd, ?_⟩
    unfold lowS
    simp only []
    rw [hg, Nat.div_one, Nat.div_one]
    rcases Bool.eq_false_or_eq_true (negP s) with h | h
    · rw [h, Bool.true_and, decide_eq_true (hp h)]
      rw [h] at ht
      exact ht
    · rw [h, Bool.false_and]
      rw [h] at ht
      exact ht

theorem nDigits_le (u k : Nat) (h : u < 10 ^ (k + 1)) : nDigits u ≤ k + 1 := by
  induction k generalizing u with
  | zero => rw [nDigits_small (by simpa using h)]; omega
  | succ k ih =>
    by_cases hu : u < 10
    · rw [nDigits_small hu]; omega
    · rw [nDigits_big hu]
      have := ih (u / 10) (by rw [Nat.div_lt_iff_lt_mul (by omega)]; rw [Nat.pow_succ] at h; exact h)
      omega

theorem text_len (neg : Bool) (m n : Nat) (hm : m ≤ 4611686018427387904) (hn : n ≤ 4611686018427387904) : (textS neg m n).length ≤ 40 := by
  have h1 := nDigits_le m 18 (by omega)
  have h2 := nDigits_le n 18 (by omega)
  have d1 := decDigits_length m
  have d2 := decDigits_length n
  have h3 : (if n = 1 then ([] : List UInt8) else 47 :: decDigits n).length ≤ 20 := by split <;> simp <;> omega
  have h4 : (if neg then [45] else ([] : List UInt8)).length ≤ 1 := by cases neg <;> simp
  unfold textS
  rw [List.length_append, List.length_append]
  omega

/-- what is shown is read -/
theorem parse_show (n d : Int) (h : validB n d = true) : parseS (showS n d) = (n, d, 0) := by
  obtain ⟨g1, g2, g3, g4, g5⟩ := validB_true h
  have es : showS n d = textS (decide (n < 0)) n.natAbs d.natAbs := by unfold showS; rw [h]; rfl
  rw [es]
  obtain ⟨p1, p2⟩ := text_parts (decide (n < 0)) n.natAbs d.natAbs
  have p3 := text_neg (decide (n < 0)) n.natAbs d.natAbs
  have hl := text_len (decide (n < 0)) n.natAbs d.natAbs (by omega) (by omega)
  have en : readN (numP (textS (decide (n < 0)) n.natAbs d.natAbs)) = n.natAbs := by rw [p1, okD_readN (okD_dec _), readV_dec]
  have ed : denV (textS (decide (n < 0)) n.natAbs d.natAbs) = d.natAbs := by
    unfold denV
    by_cases h1 : d.natAbs = 1
    · rw [p2, if_pos h1, if_pos rfl]; omega
    · rw [p2, if_neg h1, if_neg (by simp)]
      show readN (decDigits _) = _
      rw [okD_readN (okD_dec _), readV_dec]
  have hgood : goodP (textS (decide (n < 0)) n.natAbs d.natAbs) = true := by
    rw [← ref_good]
    rw [en, ed, p3]
    refine ⟨by omega, ?_⟩
    unfold lowS
    simp only []
    rw [g5, Nat.div_one, Nat.div_one]
    by_cases hn : n < 0
    · rw [decide_eq_true hn, decide_eq_true (show 0 < n.natAbs by omega)]; rfl
    · rw [decide_eq_false hn]; rfl
  unfold parseS
  rw [if_pos ⟨hl, hgood⟩, en, ed, p3]
  have := R_canon n d h
  unfold R at this
  exact this

/-- what is read is the text -/
theorem show_parse (s : List UInt8) (p q : Int) (h : parseS s = (p, q, 0)) : showS p q = s := by
  unfold parseS at h
  split at h
  · rename_i hh
    obtain ⟨_, hgood⟩ := hh
    obtain ⟨e1, hd, hg, ht, hp⟩ := good_facts hgood
    unfold ratioS at h
    rw [hg, Nat.div_one, Nat.div_one] at h
    split at h
    · rename_i hle
      unfold P62 at hle
      simp only [Prod.mk.injEq, and_true] at h
      obtain ⟨rfl, rfl⟩ := h
      have hneg : decide ((if negP s then -(readN (numP s) : Int) else (readN (numP s) : Int)) < 0) = negP s := by
        rcases Bool.eq_false_or_eq_true (negP s) with h | h
        · rw [h]; have := hp h; simp; omega
        · rw [h]; simp
      have habs : (if negP s then -(readN (numP s) : Int) else (readN (numP s) : Int)).natAbs = readN (numP s) := by
        split <;> omega
      have hv : validB (if negP s then -(readN (numP s) : Int) else (readN (numP s) : Int)) (denV s : Int) = true := by
        refine decide_eq_true ⟨by omega, by omega, ?_, ?_, ?_⟩
        · split <;> omega
        · split <;> omega
        · rw [habs, Int.natAbs_natCast]; exact hg
      unfold showS
      rw [hv]
      simp only [if_true]
      rw [hneg, habs, Int.natAbs_natCast]
      exact ht
    · simp at h
  · simp at h

end Go.Proofs.YtpjjbdpkhmeldaaDoor
