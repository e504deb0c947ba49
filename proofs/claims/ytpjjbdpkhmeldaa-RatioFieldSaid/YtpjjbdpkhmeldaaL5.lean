/- plain law: the laws of a field, for ratios -/
import Derived.Test.YtpjjbdpkhmeldaaL4
namespace Go.Proofs.Ytpjjbdpkhmeldaa

theorem mul_cancel_pos {x y k : Int} (hk : 0 < k) (h : x * k = y * k) : x = y := Int.eq_of_mul_eq_mul_right (by omega) h

theorem add_comm_R (an ad bn bd : Int) (ha : validB an ad = true) (hb : validB bn bd = true) : addS bn bd an ad = addS an ad bn bd := by
  obtain ⟨h1, _⟩ := validB_true ha
  obtain ⟨h2, _⟩ := validB_true hb
  rw [addS_R _ _ _ _ ha hb, addS_R _ _ _ _ hb ha]
  exact R_congr _ _ _ _ (Int.mul_pos (by omega) (by omega)) (Int.mul_pos (by omega) (by omega)) (by grind)

theorem mul_comm_R (an ad bn bd : Int) (ha : validB an ad = true) (hb : validB bn bd = true) : mulS bn bd an ad = mulS an ad bn bd := by
  obtain ⟨h1, _⟩ := validB_true ha
  obtain ⟨h2, _⟩ := validB_true hb
  rw [mulS_R _ _ _ _ ha hb, mulS_R _ _ _ _ hb ha]
  exact R_congr _ _ _ _ (Int.mul_pos (by omega) (by omega)) (Int.mul_pos (by omega) (by omega)) (by grind)

/-- what Add gives -/
theorem add_facts (an ad bn bd : Int) (ha : validB an ad = true) (hb : validB bn bd = true) (p q e : Int) (h : (p, q, e) = addS an ad bn bd) :
    I64 p ∧ I64 q ∧ (e = 0 ∨ e = 2) ∧ (e = 0 → validB p q = true ∧ p * (ad * bd) = (an * bd + bn * ad) * q) := by
  obtain ⟨h1, _⟩ := validB_true ha
  obtain ⟨h2, _⟩ := validB_true hb
  rw [addS_R _ _ _ _ ha hb] at h
  obtain ⟨⟨hp, hq⟩, hs⟩ := R_i64 _ _ p q e (Int.mul_pos (by omega) (by omega)) h
  exact ⟨hp, hq, R_err _ _ p q e (Int.mul_pos (by omega) (by omega)) h, hs⟩

theorem mul_facts (an ad bn bd : Int) (ha : validB an ad = true) (hb : validB bn bd = true) (p q e : Int) (h : (p, q, e) = mulS an ad bn bd) :
    I64 p ∧ I64 q ∧ (e = 0 ∨ e = 2) ∧ (e = 0 → validB p q = true ∧ p * (ad * bd) = (an * bn) * q) := by
  obtain ⟨h1, _⟩ := validB_true ha
  obtain ⟨h2, _⟩ := validB_true hb
  rw [mulS_R _ _ _ _ ha hb] at h
  obtain ⟨⟨hp, hq⟩, hs⟩ := R_i64 _ _ p q e (Int.mul_pos (by omega) (by omega)) h
  exact ⟨hp, hq, R_err _ _ p q e (Int.mul_pos (by omega) (by omega)) h, hs⟩

/-- (a + b) - b = a -/
theorem add_sub_back (an ad bn bd s1 s2 : Int) (ha : validB an ad = true) (hb : validB bn bd = true) (h : (s1, s2, 0) = addS an ad bn bd) : subS s1 s2 bn bd = (an, ad, 0) := by
  obtain ⟨h1, _⟩ := validB_true ha
  obtain ⟨h2, _⟩ := validB_true hb
  obtain ⟨_, _, _, hs⟩ := add_facts an ad bn bd ha hb s1 s2 0 h
  obtain ⟨hv, hm⟩ := hs rfl
  obtain ⟨h3, _⟩ := validB_true hv
  rw [subS_R _ _ _ _ hv hb, ← R_canon an ad ha]
  exact R_congr _ _ _ _ (Int.mul_pos (by omega) (by omega)) (by omega) (by grind)

/-- (a + b) + c = a + (b + c) -/
theorem add_assoc_R (an ad bn bd cn cd s1 s2 u1 u2 : Int) (ha : validB an ad = true) (hb : validB bn bd = true) (hc : validB cn cd = true) (h : (s1, s2, 0) = addS an ad bn bd) (g : (u1, u2, 0) = addS bn bd cn cd) :
    addS an ad u1 u2 = addS s1 s2 cn cd := by
  obtain ⟨h1, _⟩ := validB_true ha
  obtain ⟨h2, _⟩ := validB_true hb
  obtain ⟨h3, _⟩ := validB_true hc
  obtain ⟨_, _, _, hs⟩ := add_facts an ad bn bd ha hb s1 s2 0 h
  obtain ⟨hv, hm⟩ := hs rfl
  obtain ⟨_, _, _, ht⟩ := add_facts bn bd cn cd hb hc u1 u2 0 g
  obtain ⟨hw, hn⟩ := ht rfl
  obtain ⟨h4, _⟩ := validB_true hv
  obtain ⟨h5, _⟩ := validB_true hw
  rw [addS_R _ _ _ _ ha hw, addS_R _ _ _ _ hv hc]
  refine R_congr _ _ _ _ (Int.mul_pos (by omega) (by omega)) (Int.mul_pos (by omega) (by omega)) ?_
  refine mul_cancel_pos (k := bd) (by omega) ?_
  grind

/-- (a + b) c = a c + b c -/
theorem distr_R (an ad bn bd cn cd s1 s2 v1 v2 w1 w2 : Int) (ha : validB an ad = true) (hb : validB bn bd = true) (hc : validB cn cd = true) (h : (s1, s2, 0) = addS an ad bn bd) (g : (v1, v2, 0) = mulS an ad cn cd) (k : (w1, w2, 0) = mulS bn bd cn cd) :
    addS v1 v2 w1 w2 = mulS s1 s2 cn cd := by
  obtain ⟨h1, _⟩ := validB_true ha
  obtain ⟨h2, _⟩ := validB_true hb
  obtain ⟨h3, _⟩ := validB_true hc
  obtain ⟨_, _, _, hs⟩ := add_facts an ad bn bd ha hb s1 s2 0 h
  obtain ⟨hv, hm⟩ := hs rfl
  obtain ⟨_, _, _, ht⟩ := mul_facts an ad cn cd ha hc v1 v2 0 g
  obtain ⟨hw, hn⟩ := ht rfl
  obtain ⟨_, _, _, hu⟩ := mul_facts bn bd cn cd hb hc w1 w2 0 k
  obtain ⟨hz, hk⟩ := hu rfl
  obtain ⟨h4, _⟩ := validB_true hv
  obtain ⟨h5, _⟩ := validB_true hw
  obtain ⟨h6, _⟩ := validB_true hz
  rw [addS_R _ _ _ _ hw hz, mulS_R _ _ _ _ hv hc]
  refine R_congr _ _ _ _ (Int.mul_pos (by omega) (by omega)) (Int.mul_pos (by omega) (by omega)) ?_
  refine mul_cancel_pos (k := ad * bd * cd) (Int.mul_pos (Int.mul_pos (by omega) (by omega)) (by omega)) ?_
  have e1 : (v1 * w2 + w1 * v2) * (s2 * cd) * (ad * bd * cd) = (v1 * (ad * cd)) * (w2 * s2 * cd * bd) + (w1 * (bd * cd)) * (v2 * s2 * cd * ad) := by grind
  have e2 : s1 * cn * (v2 * w2) * (ad * bd * cd) = (s1 * (ad * bd)) * (cn * v2 * w2 * cd) := by grind
  rw [e1, e2, hn, hk, hm]
  grind

/-- (a b) / b = a -/
theorem mul_div_back (an ad bn bd p1 p2 : Int) (ha : validB an ad = true) (hb : validB bn bd = true) (h0 : bn ≠ 0) (h : (p1, p2, 0) = mulS an ad bn bd) : divS p1 p2 bn bd = (an, ad, 0) := by
  obtain ⟨h1, _⟩ := validB_true ha
  obtain ⟨h2, _⟩ := validB_true hb
  obtain ⟨_, _, _, hs⟩ := mul_facts an ad bn bd ha hb p1 p2 0 h
  obtain ⟨hv, hm⟩ := hs rfl
  obtain ⟨h3, _⟩ := validB_true hv
  rw [divS_R _ _ _ _ hv hb h0, ← R_canon an ad ha]
  by_cases hn : bn < 0
  · rw [if_pos hn, if_pos hn]
    have e : -(p2 * bn) = p2 * -bn := by grind
    refine R_congr _ _ _ _ (by rw [e]; exact Int.mul_pos (by omega) (by omega)) (by omega) (by grind)
  · rw [if_neg hn, if_neg hn]
    exact R_congr _ _ _ _ (Int.mul_pos (by omega) (by omega)) (by omega) (by grind)

/-- (a b) c = a (b c) -/
theorem mul_assoc_R (an ad bn bd cn cd s1 s2 u1 u2 : Int) (ha : validB an ad = true) (hb : validB bn bd = true) (hc : validB cn cd = true) (h : (s1, s2, 0) = mulS an ad bn bd) (g : (u1, u2, 0) = mulS bn bd cn cd) :
    mulS an ad u1 u2 = mulS s1 s2 cn cd := by
  obtain ⟨h1, _⟩ := validB_true ha
  obtain ⟨h2, _⟩ := validB_true hb
  obtain ⟨h3, _⟩ := validB_true hc
  obtain ⟨_, _, _, hs⟩ := mul_facts an ad bn bd ha hb s1 s2 0 h
  obtain ⟨hv, hm⟩ := hs rfl
  obtain ⟨_, _, _, ht⟩ := mul_facts bn bd cn cd hb hc u1 u2 0 g
  obtain ⟨hw, hn⟩ := ht rfl
  obtain ⟨h4, _⟩ := validB_true hv
  obtain ⟨h5, _⟩ := validB_true hw
  rw [mulS_R _ _ _ _ ha hw, mulS_R _ _ _ _ hv hc]
  refine R_congr _ _ _ _ (Int.mul_pos (by omega) (by omega)) (Int.mul_pos (by omega) (by omega)) ?_
  refine mul_cancel_pos (k := bd) (by omega) ?_
  have e1 : an * u1 * (s2 * cd) * bd = (u1 * (bd * cd)) * (an * s2) := by grind
  have e2 : s1 * cn * (ad * u2) * bd = (s1 * (ad * bd)) * (cn * u2) := by grind
  rw [e1, e2, hn, hm]
  grind

end Go.Proofs.Ytpjjbdpkhmeldaa
