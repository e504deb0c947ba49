/- plain law: the ratio of a fraction is a function of the rational number -/
import Derived.Test.YtpjjbdpkhmeldaaDoorB7
namespace Go.Proofs.YtpjjbdpkhmeldaaDoor

theorem gcd_quot (m n k l : Nat) (hn : 0 < n) (hl : 0 < l) (h : m * l = k * n) : m / Nat.gcd m n = k / Nat.gcd k l ∧ n / Nat.gcd m n = l / Nat.gcd k l := by
  have g1 : 0 < Nat.gcd m n := Nat.gcd_pos_of_pos_right _ hn
  have g2 : 0 < Nat.gcd k l := Nat.gcd_pos_of_pos_right _ hl
  have c1 : Nat.Coprime (m / Nat.gcd m n) (n / Nat.gcd m n) := Nat.coprime_div_gcd_div_gcd g1
  have c2 : Nat.Coprime (k / Nat.gcd k l) (l / Nat.gcd k l) := Nat.coprime_div_gcd_div_gcd g2
  have e1 : m / Nat.gcd m n * Nat.gcd m n = m := Nat.div_mul_cancel (Nat.gcd_dvd_left m n)
  have e2 : n / Nat.gcd m n * Nat.gcd m n = n := Nat.div_mul_cancel (Nat.gcd_dvd_right m n)
  have e3 : k / Nat.gcd k l * Nat.gcd k l = k := Nat.div_mul_cancel (Nat.gcd_dvd_left k l)
  have e4 : l / Nat.gcd k l * Nat.gcd k l = l := Nat.div_mul_cancel (Nat.gcd_dvd_right k l)
  generalize Nat.gcd m n = g at *
  generalize Nat.gcd k l = f at *
  generalize m / g = a at *
  generalize n / g = b at *
  generalize k / f = c at *
  generalize l / f = d at *
  subst e1 e2 e3 e4
  have h2 : a * d = c * b := by
    have h3 : (a * d) * (g * f) = (c * b) * (g * f) := by
      calc (a * d) * (g * f) = a * g * (d * f) := by grind
        _ = c * f * (b * g) := h
        _ = (c * b) * (g * f) := by grind
    exact Nat.eq_of_mul_eq_mul_right (Nat.mul_pos g1 g2) h3
  have d1 : b ∣ d := c1.symm.dvd_of_dvd_mul_left (h2 ▸ Nat.dvd_mul_left b c)
  have d2 : d ∣ b := c2.symm.dvd_of_dvd_mul_left (h2 ▸ Nat.dvd_mul_left d a)
  have e : b = d := Nat.dvd_antisymm d1 d2
  subst e
  have hb : 0 < b := Nat.pos_of_mul_pos_right hn
  exact ⟨Nat.eq_of_mul_eq_mul_right hb h2, rfl⟩

/-- the ratio of z / d -/
def R (z d : Int) : Int × Int × Int := ratioS (decide (z < 0)) z.natAbs d.natAbs

theorem ratioS_R (g : Bool) (m n : Nat) : ratioS g m n = R (if g then -(m : Int) else (m : Int)) n := by
  unfold R
  cases g with
  | false =>
    have e : decide ((m : Int) < 0) = false := by simp
    simp only [Bool.false_eq_true, if_false]
    rw [e]; simp
  | true =>
    rcases Nat.eq_zero_or_pos m with h | h
    · subst h; simp [ratioS]
    · have e : decide (-(m : Int) < 0) = true := by simp; omega
      simp only [if_true]
      rw [e]
      simp

theorem R_congr (z d y e : Int) (hd : 0 < d) (he : 0 < e) (h : z * e = y * d) : R z d = R y e := by
  have h1 : z.natAbs * e.natAbs = y.natAbs * d.natAbs := by rw [← Int.natAbs_mul, h, Int.natAbs_mul]
  obtain ⟨q1, q2⟩ := gcd_quot z.natAbs d.natAbs y.natAbs e.natAbs (by omega) (by omega) h1
  have hs : z < 0 ↔ y < 0 := by
    constructor
    · intro hz
      have := Int.mul_neg_of_neg_of_pos hz he
      rw [h] at this
      exact Int.neg_of_mul_neg_left this (by omega)
    · intro hy
      have := Int.mul_neg_of_neg_of_pos hy hd
      rw [← h] at this
      exact Int.neg_of_mul_neg_left this (by omega)
  unfold R ratioS
  rw [q1, q2, decide_eq_decide.2 hs]

theorem R_canon (p q : Int) (h : validB p q = true) : R p q = (p, q, 0) := by
  obtain ⟨h1, h2, h3, h4, h5⟩ := validB_true h
  unfold R ratioS
  rw [h5, Nat.div_one, Nat.div_one, if_pos (by unfold P62; omega)]
  by_cases hp : p < 0
  · rw [decide_eq_true hp]; simp; omega
  · rw [decide_eq_false hp]; simp; omega

theorem R_spec (z d : Int) (hd : 0 < d) : R z d = (0, 0, 2) ∨ ∃ p q, R z d = (p, q, 0) ∧ validB p q = true ∧ p * d = z * q := by
  have g1 : 0 < Nat.gcd z.natAbs d.natAbs := Nat.gcd_pos_of_pos_right _ (by omega)
  have c1 : Nat.Coprime (z.natAbs / Nat.gcd z.natAbs d.natAbs) (d.natAbs / Nat.gcd z.natAbs d.natAbs) := Nat.coprime_div_gcd_div_gcd g1
  have e1 : z.natAbs / Nat.gcd z.natAbs d.natAbs * Nat.gcd z.natAbs d.natAbs = z.natAbs := Nat.div_mul_cancel (Nat.gcd_dvd_left _ _)
  have e2 : d.natAbs / Nat.gcd z.natAbs d.natAbs * Nat.gcd z.natAbs d.natAbs = d.natAbs := Nat.div_mul_cancel (Nat.gcd_dvd_right _ _)
  unfold R ratioS
  generalize Nat.gcd z.natAbs d.natAbs = g at *
  generalize z.natAbs / g = a at *
  generalize d.natAbs / g = b at *
  split
  · rename_i hle
    right
    unfold P62 at hle
    have hb : 0 < b := by
      rcases Nat.eq_zero_or_pos b with h | h
      · subst h; omega
      · exact h
    have hdd : d = (b : Int) * g := by rw [← Int.natCast_mul, e2]; omega
    by_cases hz : z < 0
    · have hzz : z = -((a : Int) * g) := by rw [← Int.natCast_mul, e1]; omega
      rw [decide_eq_true hz]
      refine ⟨-(a : Int), b, rfl, decide_eq_true ⟨by omega, by omega, by omega, by omega, ?_⟩, ?_⟩
      · simpa using c1
      · rw [hdd, hzz]; grind
    · have hzz : z = (a : Int) * g := by rw [← Int.natCast_mul, e1]; omega
      rw [decide_eq_false hz]
      refine ⟨(a : Int), b, rfl, decide_eq_true ⟨by omega, by omega, by omega, by omega, ?_⟩, ?_⟩
      · simpa using c1
      · rw [hdd, hzz]; grind
  · left; rfl

theorem plusS_R (g1 : Bool) (m1 n1 : Nat) (g2 : Bool) (m2 n2 : Nat) :
    ratioS (plusS g1 m1 n1 g2 m2 n2).1 (plusS g1 m1 n1 g2 m2 n2).2.1 (plusS g1 m1 n1 g2 m2 n2).2.2 = R ((if g1 then -(m1 : Int) else m1) * n2 + (if g2 then -(m2 : Int) else m2) * n1) ((n1 : Int) * n2) := by
  unfold plusS
  have hc : ((m1 * n2 : Nat) : Int) = (m1 : Int) * n2 := Int.natCast_mul _ _
  have hc2 : ((m2 * n1 : Nat) : Int) = (m2 : Int) * n1 := Int.natCast_mul _ _
  split
  · rename_i h
    subst h
    rw [ratioS_R]
    congr 1
    · cases g1 with
      | false => simp
      | true => simp only [if_true]; rw [Int.natCast_add, hc, hc2]; grind
  · rename_i h
    split
    · rename_i h2
      rw [ratioS_R]
      congr 1
      · have e : ((m1 * n2 - m2 * n1 : Nat) : Int) = (m1 : Int) * n2 - m2 * n1 := by omega
        show (if g1 = true then -((m1 * n2 - m2 * n1 : Nat) : Int) else ((m1 * n2 - m2 * n1 : Nat) : Int)) = _
        rw [e]
        cases g1 <;> cases g2 <;> simp at h ⊢ <;> grind
    · rename_i h2
      rw [ratioS_R]
      congr 1
      · have e : ((m2 * n1 - m1 * n2 : Nat) : Int) = (m2 : Int) * n1 - m1 * n2 := by omega
        show (if g2 = true then -((m2 * n1 - m1 * n2 : Nat) : Int) else ((m2 * n1 - m1 * n2 : Nat) : Int)) = _
        rw [e]
        cases g1 <;> cases g2 <;> simp at h ⊢ <;> grind

theorem sg_abs (n : Int) : (if decide (n < 0) then -(n.natAbs : Int) else (n.natAbs : Int)) = n := by
  by_cases h : n < 0
  · rw [decide_eq_true h]; simp; omega
  · rw [decide_eq_false h]; simp; omega

theorem addS_R (an ad bn bd : Int) (ha : validB an ad = true) (hb : validB bn bd = true) : addS an ad bn bd = R (an * bd + bn * ad) (ad * bd) := by
  obtain ⟨h1, _⟩ := validB_true ha
  obtain ⟨h2, _⟩ := validB_true hb
  unfold addS
  rw [ha, hb]
  simp only [Bool.and_self, if_true]
  rw [plusS_R, sg_abs, sg_abs]
  have e1 : (ad.natAbs : Int) = ad := by omega
  have e2 : (bd.natAbs : Int) = bd := by omega
  rw [e1, e2]

theorem validB_neg (n d : Int) (h : validB n d = true) : validB (-n) d = true := by
  obtain ⟨h1, h2, h3, h4, h5⟩ := validB_true h
  exact decide_eq_true ⟨h1, h2, by omega, by omega, by simpa using h5⟩

theorem subS_R (an ad bn bd : Int) (ha : validB an ad = true) (hb : validB bn bd = true) : subS an ad bn bd = R (an * bd - bn * ad) (ad * bd) := by
  unfold subS negS
  rw [ha, hb]
  simp only [Bool.and_self, if_true]
  rw [addS_R an ad (-bn) bd ha (validB_neg bn bd hb)]
  congr 1
  grind

theorem mul_sg (a b : Int) : (if (decide (a < 0) != decide (b < 0)) then -((a.natAbs * b.natAbs : Nat) : Int) else ((a.natAbs * b.natAbs : Nat) : Int)) = a * b := by
  rw [Int.natCast_mul]
  by_cases h1 : a < 0 <;> by_cases h2 : b < 0
  · have e1 : (a.natAbs : Int) = -a := by omega
    have e2 : (b.natAbs : Int) = -b := by omega
    rw [e1, e2]; simp [h1, h2, Int.neg_mul, Int.mul_neg]
  · have e1 : (a.natAbs : Int) = -a := by omega
    have e2 : (b.natAbs : Int) = b := by omega
    rw [e1, e2]; simp [h1, h2, Int.neg_mul]
  · have e1 : (a.natAbs : Int) = a := by omega
    have e2 : (b.natAbs : Int) = -b := by omega
    rw [e1, e2]; simp [h1, h2, Int.mul_neg]
  · have e1 : (a.natAbs : Int) = a := by omega
    have e2 : (b.natAbs : Int) = b := by omega
    rw [e1, e2]; simp [h1, h2]

theorem mulS_R (an ad bn bd : Int) (ha : validB an ad = true) (hb : validB bn bd = true) : mulS an ad bn bd = R (an * bn) (ad * bd) := by
  obtain ⟨h1, _⟩ := validB_true ha
  obtain ⟨h2, _⟩ := validB_true hb
  unfold mulS
  rw [ha, hb]
  simp only [Bool.and_self, if_true]
  rw [ratioS_R, mul_sg]
  have e1 : ((ad.natAbs * bd.natAbs : Nat) : Int) = ad * bd := by rw [Int.natCast_mul]; congr 1 <;> omega
  rw [e1]

theorem divS_R (an ad bn bd : Int) (ha : validB an ad = true) (hb : validB bn bd = true) (h0 : bn ≠ 0) : divS an ad bn bd = R (if bn < 0 then -(an * bd) else an * bd) (if bn < 0 then -(ad * bn) else ad * bn) := by
  obtain ⟨h1, _⟩ := validB_true ha
  obtain ⟨h2, _⟩ := validB_true hb
  unfold divS
  rw [ha, hb]
  have e0 : (bn != 0) = true := by simpa using h0
  rw [e0]
  simp only [Bool.and_self, if_true]
  rw [ratioS_R]
  have e1 : ((an.natAbs * bd.natAbs : Nat) : Int) = (an.natAbs : Int) * bd := by rw [Int.natCast_mul]; congr 1; omega
  have e2 : ((ad.natAbs * bn.natAbs : Nat) : Int) = ad * (bn.natAbs : Int) := by rw [Int.natCast_mul]; congr 1; omega
  rw [e1, e2]
  by_cases hb0 : bn < 0
  · have e3 : (bn.natAbs : Int) = -bn := by omega
    rw [e3, if_pos hb0, if_pos hb0, decide_eq_true hb0]
    by_cases ha0 : an < 0
    · have e4 : (an.natAbs : Int) = -an := by omega
      rw [e4, decide_eq_true ha0]; simp [Int.neg_mul, Int.mul_neg]
    · have e4 : (an.natAbs : Int) = an := by omega
      rw [e4, decide_eq_false ha0]; simp [Int.mul_neg]
  · have e3 : (bn.natAbs : Int) = bn := by omega
    rw [e3, if_neg hb0, if_neg hb0, decide_eq_false hb0]
    by_cases ha0 : an < 0
    · have e4 : (an.natAbs : Int) = -an := by omega
      rw [e4, decide_eq_true ha0]; simp [Int.neg_mul]
    · have e4 : (an.natAbs : Int) = an := by omega
      rw [e4, decide_eq_false ha0]; simp

theorem cmpS_sgn (an ad bn bd : Int) (ha : validB an ad = true) (hb : validB bn bd = true) : cmpS an ad bn bd = sgn (an * bd - bn * ad) := by
  unfold cmpS; rw [ha, hb]; rfl

theorem sgn_neg_eq (a : Int) : sgn (-a) = -sgn a := by
  rcases sgn_cases a with ⟨h, e⟩ | ⟨h, e⟩ | ⟨h, e⟩
  · rw [e, sgn_pos (by omega)]; rfl
  · subst h; rfl
  · rw [e, sgn_neg (by omega)]

theorem sgn_mul (a b : Int) : sgn (a * b) = sgn a * sgn b := by
  rcases sgn_cases b with ⟨h, e⟩ | ⟨h, e⟩ | ⟨h, e⟩
  · have : a * b = -(a * -b) := by grind
    rw [this, sgn_neg_eq, sgn_mul_pos a (-b) (by omega), e]; omega
  · subst h; simp [e]
  · rw [sgn_mul_pos a b h, e]; omega

theorem sgn_eq_of_mul (a b k l : Int) (hk : 0 < k) (hl : 0 < l) (h : a * k = b * l) : sgn a = sgn b := by
  rw [← sgn_mul_pos a k hk, h, sgn_mul_pos b l hl]

theorem sgn_lt {a : Int} : sgn a < 0 ↔ a < 0 := by
  rcases sgn_cases a with ⟨h, e⟩ | ⟨h, e⟩ | ⟨h, e⟩ <;> rw [e] <;> omega
theorem sgn_le {a : Int} : sgn a ≤ 0 ↔ a ≤ 0 := by
  rcases sgn_cases a with ⟨h, e⟩ | ⟨h, e⟩ | ⟨h, e⟩ <;> rw [e] <;> omega
theorem sgn_eq0 {a : Int} : sgn a = 0 ↔ a = 0 := by
  rcases sgn_cases a with ⟨h, e⟩ | ⟨h, e⟩ | ⟨h, e⟩ <;> rw [e] <;> omega
theorem sgn_bd (a : Int) : -1 ≤ sgn a ∧ sgn a ≤ 1 := by
  rcases sgn_cases a with ⟨h, e⟩ | ⟨h, e⟩ | ⟨h, e⟩ <;> rw [e] <;> omega

/-- equal as numbers: equal -/
theorem valid_eq (an ad bn bd : Int) (ha : validB an ad = true) (hb : validB bn bd = true) (h : an * bd = bn * ad) : an = bn ∧ ad = bd := by
  obtain ⟨h1, _⟩ := validB_true ha
  obtain ⟨h2, _⟩ := validB_true hb
  have := R_congr an ad bn bd (by omega) (by omega) h
  rw [R_canon an ad ha, R_canon bn bd hb] at this
  simpa using this


end Go.Proofs.YtpjjbdpkhmeldaaDoor
