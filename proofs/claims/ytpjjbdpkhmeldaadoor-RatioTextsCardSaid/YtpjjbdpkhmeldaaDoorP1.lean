/- Long division, digit by digit: plain arithmetic, no program in sight. -/
import Derived.Test.YtpjjbdpkhmeldaaDoorP0
namespace Go.Proofs.YtpjjbdpkhmeldaaDoor

variable {W : Nat}

theorem drop_set_at (l : List Nat) (i j v : Nat) : (l.set (i + j) v).drop i = (l.drop i).set j v := by
  rw [List.drop_set, if_neg (by omega), show i + j - i = j from by omega]

theorem drop_get (l : List Nat) (i j d : Nat) (h : l[i + j]? = some d) : (l.drop i)[j]? = some d := by
  rw [List.getElem?_drop]; exact h

theorem val_set' (W : Nat) (l : List Nat) (k v d : Nat) (h : l[k]? = some d) : val W (l.set k v) + d * W ^ k = val W l + v * W ^ k := by
  have hk : k < l.length := (List.getElem?_eq_some_iff.1 h).1
  have := val_set W l k v hk
  rw [(List.getElem?_eq_some_iff.1 h).2] at this
  exact this

/-- the rounds of the outer loop -/
def OutP (W U D i : Nat) (ro qo : List Nat) : Prop := val W ro + val W (qo.drop i) * W ^ i * D = U ∧ val W (ro.drop i) < D

/-- multiply and subtract -/
def SubL (W : Nat) (ro0 ds : List Nat) (g i j cy bw : Nat) (ro : List Nat) : Prop :=
  ro.take i = ro0.take i ∧ ro.drop (i + j) = ro0.drop (i + j) ∧ val W (ro.drop i) + g * val W (ds.take j) = val W (ro0.drop i) + (cy + bw) * W ^ j ∧ cy < W ∧ bw ≤ 1

theorem SubL.start (hW : 2 ≤ W) (ro0 ds : List Nat) (g i : Nat) : SubL W ro0 ds g i 0 0 0 ro0 := ⟨rfl, rfl, by simp, by omega, by omega⟩

theorem SubL.step (hW : 2 ≤ W) {ro0 ds : List Nat} {g i j cy bw : Nat} {ro : List Nat} (h : SubL W ro0 ds g i j cy bw ro) (hj : j < ds.length) (hg : g < W) (hx : ds[j] < W) (r : Nat) (hr : ro[i + j]? = some r) (v bw' : Nat)
    (hv : ((cy + g * ds[j]) % W + bw ≤ r ∧ v = r - ((cy + g * ds[j]) % W + bw) ∧ bw' = 0) ∨ (r < (cy + g * ds[j]) % W + bw ∧ v + ((cy + g * ds[j]) % W + bw) = r + W ∧ bw' = 1)) :
    SubL W ro0 ds g i (j + 1) ((cy + g * ds[j]) / W) bw' (ro.set (i + j) v) := by
  obtain ⟨h1, h2, h3, h4, h5⟩ := h
  refine ⟨?_, ?_, ?_, ?_, by omega⟩
  · rw [List.take_set_of_le (by omega), h1]
  · rw [List.drop_set_of_lt (by omega)]
    have := congrArg (List.drop 1) h2
    rw [List.drop_drop, List.drop_drop] at this
    exact this
  · rw [drop_set_at, val_take_succ W ds j hj]
    have e := val_set' W (ro.drop i) j v r (drop_get _ _ _ _ hr)
    have e2 := Nat.mod_add_div (cy + g * ds[j]) W
    generalize (cy + g * ds[j]) % W = a at *
    generalize (cy + g * ds[j]) / W = b at *
    generalize ds[j] = x at *
    generalize val W ((ro.drop i).set j v) = V at *
    generalize val W (ro.drop i) = V0 at *
    generalize val W (ro0.drop i) = N at *
    generalize val W (ds.take j) = T at *
    rw [Nat.pow_succ]
    generalize W ^ j = p at *
    have e3 : (a + W * b) * p = (cy + g * x) * p := by rw [e2]
    rcases hv with ⟨c1, c2, rfl⟩ | ⟨c1, c2, rfl⟩
    · have e4 : (v + (a + bw)) * p = r * p := by rw [c2]; congr 1; omega
      grind
    · have e4 : (v + (a + bw)) * p = (r + W) * p := by rw [c2]
      grind
  · rw [Nat.div_lt_iff_lt_mul (by omega)]
    have : g * ds[j] ≤ (W - 1) * (W - 1) := Nat.mul_le_mul (by omega) (by omega)
    obtain ⟨c, rfl⟩ : ∃ c, W = c + 1 := ⟨W - 1, by omega⟩
    simp only [Nat.add_sub_cancel] at this
    grind

/-- the correction -/
def CorP (W : Nat) (ro0 : List Nat) (D L i g ν eL : Nat) (ro : List Nat) : Prop :=
  ro.take i = ro0.take i ∧ ro[i + L]? = some eL ∧ val W (ro.drop (i + L + 1)) = 0 ∧ val W (ro.drop i) + g * D = val W (ro0.drop i) + ν * W ^ (L + 1) ∧ val W (ro0.drop i) < (g + 1) * D ∧ ν ≤ 1

theorem SubL.fin (hW : 2 ≤ W) {ro0 ds : List Nat} {g i cy bw : Nat} {ro : List Nat} (h : SubL W ro0 ds g i ds.length cy bw ro) (D : Nat) (hD : val W ds = D) (h0 : val W (ro0.drop (i + ds.length + 1)) = 0) (hg : val W (ro0.drop i) < (g + 1) * D)
    (r : Nat) (hr : ro[i + ds.length]? = some r) (eL ν : Nat) (he : (cy + bw ≤ r ∧ eL = r - (cy + bw) ∧ ν = 0) ∨ (r < cy + bw ∧ eL + (cy + bw) = r + W ∧ ν = 1)) :
    CorP W ro0 D ds.length i g ν eL (ro.set (i + ds.length) eL) := by
  obtain ⟨h1, h2, h3, h4, h5⟩ := h
  have _ := hW
  have hl : i + ds.length < ro.length := (List.getElem?_eq_some_iff.1 hr).1
  refine ⟨?_, ?_, ?_, ?_, hg, by omega⟩
  · rw [List.take_set_of_le (by omega), h1]
  · rw [List.getElem?_set_self hl]
  · rw [List.drop_set_of_lt (by omega)]
    have := congrArg (List.drop 1) h2
    rw [List.drop_drop, List.drop_drop] at this
    rw [this, h0]
  · rw [drop_set_at]
    have e := val_set' W (ro.drop i) ds.length eL r (drop_get _ _ _ _ hr)
    rw [List.take_length, hD] at h3
    rw [Nat.pow_succ]
    generalize W ^ ds.length = p at *
    generalize val W ((ro.drop i).set ds.length eL) = V at *
    rcases he with ⟨c1, c2, rfl⟩ | ⟨c1, c2, rfl⟩
    · have e4 : (eL + (cy + bw)) * p = r * p := by rw [c2]; congr 1; omega
      grind
    · have e4 : (eL + (cy + bw)) * p = (r + W) * p := by rw [c2]
      grind

/-- what lies above is nought, so the window is less than a power -/
theorem CorP.lt (hW : 2 ≤ W) {ro0 : List Nat} {D L i g ν eL : Nat} {ro : List Nat} (h : CorP W ro0 D L i g ν eL ro) (hd : ∀ d ∈ ro, d < W) : val W (ro.drop i) < W ^ (L + 1) := by
  obtain ⟨h1, h2, h3, _⟩ := h
  have hl : i + L < ro.length := (List.getElem?_eq_some_iff.1 h2).1
  have e : ro.drop i = (ro.drop i).take (L + 1) ++ (ro.drop i).drop (L + 1) := (List.take_append_drop _ _).symm
  rw [e, val_append, List.drop_drop, show i + (L + 1) = i + L + 1 from by omega, h3, Nat.mul_zero, Nat.add_zero]
  have := val_lt W hW ((ro.drop i).take (L + 1)) (fun d hd' => hd d (List.mem_of_mem_drop (List.mem_of_mem_take hd')))
  rw [List.length_take, List.length_drop, Nat.min_eq_left (by omega)] at this
  exact this

theorem CorP.pos (hW : 2 ≤ W) {ro0 : List Nat} {D L i g eL : Nat} {ro : List Nat} (h : CorP W ro0 D L i g 1 eL ro) (hd : ∀ d ∈ ro, d < W) : 1 ≤ g := by
  have := CorP.lt hW h hd
  obtain ⟨_, _, _, h4, _⟩ := h
  rcases Nat.eq_zero_or_pos g with rfl | h
  · omega
  · exact h

/-- adding back -/
def AddL (W : Nat) (ro1 ds : List Nat) (i j s : Nat) (ro : List Nat) : Prop :=
  ro.take i = ro1.take i ∧ ro.drop (i + j) = ro1.drop (i + j) ∧ val W (ro.drop i) + s * W ^ j = val W (ro1.drop i) + val W (ds.take j) ∧ s ≤ 1

theorem AddL.start (ro1 ds : List Nat) (i : Nat) : AddL W ro1 ds i 0 0 ro1 := ⟨rfl, rfl, by simp, by omega⟩

theorem AddL.step (hW : 2 ≤ W) {ro1 ds : List Nat} {i j s : Nat} {ro : List Nat} (h : AddL W ro1 ds i j s ro) (hj : j < ds.length) (hx : ds[j] < W) (r : Nat) (hr : ro[i + j]? = some r) (hrl : r < W) :
    AddL W ro1 ds i (j + 1) ((s + (r + ds[j])) / W) (ro.set (i + j) ((s + (r + ds[j])) % W)) := by
  obtain ⟨h1, h2, h3, h4⟩ := h
  refine ⟨?_, ?_, ?_, ?_⟩
  · rw [List.take_set_of_le (by omega), h1]
  · rw [List.drop_set_of_lt (by omega)]
    have := congrArg (List.drop 1) h2
    rw [List.drop_drop, List.drop_drop] at this
    exact this
  · rw [drop_set_at, val_take_succ W ds j hj]
    have e := val_set' W (ro.drop i) j ((s + (r + ds[j])) % W) r (drop_get _ _ _ _ hr)
    have e2 := Nat.mod_add_div (s + (r + ds[j])) W
    generalize (s + (r + ds[j])) % W = a at *
    generalize (s + (r + ds[j])) / W = b at *
    generalize ds[j] = x at *
    rw [Nat.pow_succ]
    generalize W ^ j = p at *
    have e3 : (a + W * b) * p = (s + (r + x)) * p := by rw [e2]
    grind
  · have : (s + (r + ds[j])) / W < 2 := by rw [Nat.div_lt_iff_lt_mul (by omega)]; omega
    omega

theorem AddL.fin (hW : 2 ≤ W) {ro0 ro1 ds : List Nat} {D g i eL s : Nat} {ro : List Nat} (hc : CorP W ro0 D ds.length i g 1 eL ro1) (hd1 : ∀ d ∈ ro1, d < W) (hD : val W ds = D) (h : AddL W ro1 ds i ds.length s ro) :
    ro[i + ds.length]? = some eL ∧ CorP W ro0 D ds.length i (g - 1) (1 - (eL + s) / W) ((eL + s) % W) (ro.set (i + ds.length) ((eL + s) % W)) := by
  have hlt := CorP.lt hW hc hd1
  have hp := CorP.pos hW hc hd1
  obtain ⟨c1, c2, c3, c4, c5, c6⟩ := hc
  obtain ⟨h1, h2, h3, h4⟩ := h
  have hl : i + ds.length < ro1.length := (List.getElem?_eq_some_iff.1 c2).1
  have heL : eL < W := by
    have := (List.getElem?_eq_some_iff.1 c2).2
    rw [← this]; exact hd1 _ (List.getElem_mem _)
  have hr : ro[i + ds.length]? = some eL := by
    have := congrArg List.head? h2
    rw [List.head?_drop, List.head?_drop, c2] at this
    exact this
  have hl' : i + ds.length < ro.length := (List.getElem?_eq_some_iff.1 hr).1
  have hdiv : (eL + s) / W ≤ 1 := by
    have : (eL + s) / W < 2 := by rw [Nat.div_lt_iff_lt_mul (by omega)]; omega
    omega
  refine ⟨hr, ?_, ?_, ?_, ?_, ?_, Nat.sub_le _ _⟩
  · rw [List.take_set_of_le (by omega), h1, c1]
  · rw [List.getElem?_set_self hl']
  · rw [List.drop_set_of_lt (by omega)]
    have := congrArg (List.drop 1) h2
    rw [List.drop_drop, List.drop_drop] at this
    rw [this, c3]
  · rw [drop_set_at]
    have e := val_set' W (ro.drop i) ds.length ((eL + s) % W) eL (drop_get _ _ _ _ hr)
    have e2 := Nat.mod_add_div (eL + s) W
    rw [List.take_length, hD] at h3
    generalize (eL + s) % W = a at *
    generalize (eL + s) / W = b at *
    rw [Nat.pow_succ] at *
    generalize W ^ ds.length = p at *
    have e3 : (a + W * b) * p = (eL + s) * p := by rw [e2]
    obtain ⟨f, rfl⟩ : ∃ f, g = f + 1 := ⟨g - 1, by omega⟩
    rw [Nat.add_sub_cancel]
    rcases (show b = 0 ∨ b = 1 from by omega) with rfl | rfl
    · simp only [Nat.sub_zero]; grind
    · simp only [Nat.sub_self]; grind
  · rw [show g - 1 + 1 = g from by omega]
    generalize W ^ (ds.length + 1) = p at hlt c4
    omega

/-- the digit of the quotient is found -/
theorem CorP.exit (hW : 2 ≤ W) {U D L i g eL : Nat} {ro0 ro qo : List Nat} (ho : OutP W U D (i + 1) ro0 qo) (h : CorP W ro0 D L i g 0 eL ro) (hi : i < qo.length) (hi0 : i < ro0.length) (hir : i < ro.length) :
    OutP W U D i ro (qo.set i g) := by
  have _ := hW
  obtain ⟨o1, o2⟩ := ho
  obtain ⟨c1, c2, c3, c4, c5, c6⟩ := h
  have e1 : ro = ro.take i ++ ro.drop i := by simp
  have e0 : ro0 = ro0.take i ++ ro0.drop i := by simp
  have v1 : val W ro = val W (ro.take i) + W ^ i * val W (ro.drop i) := by
    conv => lhs; rw [e1]
    rw [val_append, List.length_take, Nat.min_eq_left (by omega)]
  have v0 : val W ro0 = val W (ro0.take i) + W ^ i * val W (ro0.drop i) := by
    conv => lhs; rw [e0]
    rw [val_append, List.length_take, Nat.min_eq_left (by omega)]
  have hq : val W ((qo.set i g).drop i) = g + W * val W (qo.drop (i + 1)) := by
    rw [List.drop_eq_getElem_cons (by rw [List.length_set]; exact hi), val_cons, List.getElem_set_self, List.drop_set_of_lt (by omega)]
  refine ⟨?_, ?_⟩
  · rw [hq, v1, c1, ← o1, v0]
    simp only [Nat.zero_mul, Nat.add_zero] at c4
    rw [← c4, Nat.pow_succ]
    generalize W ^ i = p at *
    grind
  · simp only [Nat.zero_mul, Nat.add_zero] at c4
    have : (g + 1) * D = g * D + D := by rw [Nat.add_mul]; omega
    omega

/-- the guess is not too small -/
theorem guess_ge (hW : 2 ≤ W) {ro ds : List Nat} {i rk r1 top g : Nat} (hd : ∀ d ∈ ro, d < W) (hL : 0 < ds.length) (htop : ds[ds.length - 1]? = some top) (htp : 0 < top)
    (hr : ro[i + ds.length]? = some rk) (hr1 : ro[i + ds.length - 1]? = some r1) (h0 : val W (ro.drop (i + ds.length + 1)) = 0) (hN : val W (ro.drop (i + 1)) < val W ds)
    (hg : (rk * W + r1) / top ≤ g ∨ W - 1 ≤ g) : val W (ro.drop i) < (g + 1) * val W ds := by
  have hl : i + ds.length < ro.length := (List.getElem?_eq_some_iff.1 hr).1
  have hdi : val W (ro.drop i) = ro[i] + W * val W (ro.drop (i + 1)) := by rw [List.drop_eq_getElem_cons (by omega), val_cons]
  have hri : ro[i] < W := hd _ (List.getElem_mem _)
  rcases hg with hg | hg
  · -- the window in three pieces
    obtain ⟨M, hM⟩ : ∃ M, ds.length = M + 1 := ⟨ds.length - 1, by omega⟩
    rw [hM] at hr hr1 h0 htop
    have hw : val W (ro.drop i) < (rk * W + r1 + 1) * W ^ M := by
      have e : ro.drop i = (ro.drop i).take (M + 1 + 1) ++ (ro.drop i).drop (M + 1 + 1) := (List.take_append_drop _ _).symm
      rw [e, val_append, List.drop_drop, show i + (M + 1 + 1) = i + (M + 1) + 1 from by omega, h0, Nat.mul_zero, Nat.add_zero]
      have hlen : (ro.drop i).length = ro.length - i := List.length_drop
      have g1 := drop_get ro i (M + 1) rk hr
      have g2 := drop_get ro i M r1 (by rw [← hr1]; congr 1)
      rw [val_take_succ W _ (M + 1) (by omega), val_take_succ W _ M (by omega)]
      rw [(List.getElem?_eq_some_iff.1 g1).2, (List.getElem?_eq_some_iff.1 g2).2]
      have := val_lt W hW ((ro.drop i).take M) (fun d hd' => hd d (List.mem_of_mem_drop (List.mem_of_mem_take hd')))
      rw [List.length_take, Nat.min_eq_left (by omega)] at this
      rw [Nat.pow_succ]
      generalize W ^ M = p at *
      grind
    have hds : top * W ^ M ≤ val W ds := by
      have e := val_take_succ W ds M (by omega)
      rw [List.take_of_length_le (by omega)] at e
      have ht := (List.getElem?_eq_some_iff.1 htop).2
      simp only [Nat.add_sub_cancel] at ht
      rw [e, ht]; omega
    have h1 : rk * W + r1 < (g + 1) * top := by
      have : (rk * W + r1) / top < g + 1 := by omega
      rwa [Nat.div_lt_iff_lt_mul htp] at this
    calc val W (ro.drop i) < (rk * W + r1 + 1) * W ^ M := hw
      _ ≤ (g + 1) * top * W ^ M := Nat.mul_le_mul_right _ h1
      _ = (g + 1) * (top * W ^ M) := Nat.mul_assoc _ _ _
      _ ≤ (g + 1) * val W ds := Nat.mul_le_mul_left _ hds
  · have h1 : W * (val W (ro.drop (i + 1)) + 1) ≤ W * val W ds := Nat.mul_le_mul_left _ hN
    have h2 : W * val W ds ≤ (g + 1) * val W ds := Nat.mul_le_mul_right _ (by omega)
    rw [Nat.mul_add] at h1
    omega

/-- what lies above the window is nought -/
theorem top_zero (hW : 2 ≤ W) {ro ds : List Nat} {i : Nat} (hdd : ∀ d ∈ ds, d < W) (hl : i + ds.length < ro.length) (hN : val W (ro.drop (i + 1)) < val W ds) : val W (ro.drop (i + ds.length + 1)) = 0 := by
  have h1 := val_lt W hW ds hdd
  have e : ro.drop (i + 1) = (ro.drop (i + 1)).take ds.length ++ (ro.drop (i + 1)).drop ds.length := (List.take_append_drop _ _).symm
  rw [e, val_append, List.drop_drop, show i + 1 + ds.length = i + ds.length + 1 from by omega, List.length_take, List.length_drop, Nat.min_eq_left (by omega)] at hN
  rcases Nat.eq_zero_or_pos (val W (ro.drop (i + ds.length + 1))) with h | h
  · exact h
  · have : W ^ ds.length * 1 ≤ W ^ ds.length * val W (ro.drop (i + ds.length + 1)) := Nat.mul_le_mul_left _ h
    omega

theorem OutP.start (hW : 2 ≤ W) {U D R Q : Nat} {us ds qo : List Nat} (hU : val W us = U) (hD : val W ds = D) (hus : ∀ d ∈ us, d < W) (hR : us.length < R) (hQ : R = Q + ds.length) (hq : qo.length = Q) (hL : 0 < ds.length) (top : Nat) (htop : ds[ds.length - 1]? = some top) (htp : 0 < top) :
    OutP W U D Q (us ++ (List.replicate R 0).drop us.length) qo := by
  have hv : val W (us ++ (List.replicate R 0).drop us.length) = U := by
    rw [val_append, List.drop_replicate, val_replicate_zero, hU]; simp
  refine ⟨?_, ?_⟩
  · rw [show qo.drop Q = [] from List.drop_eq_nil_of_le (by omega), hv]; simp
  · have h1 := val_lt W hW us hus
    have hlen : (us ++ (List.replicate R 0).drop us.length).length = R := by simp; omega
    generalize us ++ (List.replicate R 0).drop us.length = ro at *
    have e : ro = ro.take Q ++ ro.drop Q := by simp
    have v : val W ro = val W (ro.take Q) + W ^ Q * val W (ro.drop Q) := by
      conv => lhs; rw [e]
      rw [val_append, List.length_take, Nat.min_eq_left (by omega)]
    have h2 : W ^ us.length ≤ W ^ (Q + (ds.length - 1)) := Nat.pow_le_pow_right (by omega) (by omega)
    rw [Nat.pow_add] at h2
    have h3 : W ^ Q * val W (ro.drop Q) < W ^ Q * W ^ (ds.length - 1) := by omega
    have h4 := Nat.lt_of_mul_lt_mul_left h3
    have h5 : top * W ^ (ds.length - 1) ≤ val W ds := by
      have e := val_take_succ W ds (ds.length - 1) (by omega)
      rw [List.take_of_length_le (by omega)] at e
      have ht := (List.getElem?_eq_some_iff.1 htop).2
      rw [e, ht]; omega
    have h6 : 1 * W ^ (ds.length - 1) ≤ top * W ^ (ds.length - 1) := Nat.mul_le_mul_right _ htp
    omega

theorem OutP.fin {U D : Nat} {ro qo : List Nat} (h : OutP W U D 0 ro qo) : val W qo = U / D ∧ val W ro = U % D := by
  obtain ⟨h1, h2⟩ := h
  rw [List.drop_zero, Nat.pow_zero, Nat.mul_one] at h1
  rw [List.drop_zero] at h2
  have hD : 0 < D := by omega
  constructor
  · rw [← h1, Nat.mul_comm, Nat.add_mul_div_left _ _ hD, Nat.div_eq_of_lt h2, Nat.zero_add]
  · rw [← h1, Nat.mul_comm, Nat.add_mul_mod_self_left, Nat.mod_eq_of_lt h2]

end Go.Proofs.YtpjjbdpkhmeldaaDoor
