/- Natural numbers as lists of digits to a base, the least one first: plain arithmetic, no program in sight. -/
namespace Go.Proofs.YtpjjbdpkhmeldaaDoor

/-- the value of digits to the base B -/
def val (B : Nat) : List Nat → Nat
  | [] => 0
  | d :: l => d + B * val B l

/-- the digits of a number, without a leading zero -/
def digs (B n : Nat) : List Nat := if _h : n = 0 ∨ B < 2 then [] else n % B :: digs B (n / B)
termination_by n
decreasing_by exact Nat.div_lt_self (by omega) (by omega)

def trimN (l : List Nat) : List Nat := (l.reverse.dropWhile (· == 0)).reverse

@[simp] theorem val_nil (B : Nat) : val B [] = 0 := rfl
theorem val_cons (B d : Nat) (l : List Nat) : val B (d :: l) = d + B * val B l := rfl

theorem digs_zero (B : Nat) : digs B 0 = [] := by rw [digs]; simp
theorem digs_pos (B n : Nat) (hB : 2 ≤ B) (hn : 0 < n) : digs B n = n % B :: digs B (n / B) := by
  rw [digs]; rw [dif_neg (by omega)]

theorem val_digs (B : Nat) (hB : 2 ≤ B) (n : Nat) : val B (digs B n) = n := by
  induction n using Nat.strongRecOn with
  | ind n ih =>
    by_cases h : n = 0
    · subst h; rw [digs_zero]; rfl
    · rw [digs_pos B n hB (by omega), val_cons, ih (n / B) (Nat.div_lt_self (by omega) (by omega))]
      exact Nat.mod_add_div n B

theorem digs_lt (B : Nat) (hB : 2 ≤ B) (n : Nat) : ∀ d ∈ digs B n, d < B := by
  induction n using Nat.strongRecOn with
  | ind n ih =>
    by_cases h : n = 0
    · subst h; rw [digs_zero]; intro d hd; cases hd
    · rw [digs_pos B n hB (by omega)]
      intro d hd
      rcases List.mem_cons.1 hd with rfl | hd
      · exact Nat.mod_lt _ (by omega)
      · exact ih (n / B) (Nat.div_lt_self (by omega) (by omega)) d hd

theorem trimN_append_zero (l : List Nat) : trimN (l ++ [0]) = trimN l := by simp [trimN]
theorem trimN_append_pos (l : List Nat) (d : Nat) (h : d ≠ 0) : trimN (l ++ [d]) = l ++ [d] := by simp [trimN, h]
theorem trimN_nil : trimN [] = [] := rfl

theorem trimN_cons (d : Nat) (l : List Nat) : trimN (d :: l) = if trimN l = [] then (if d = 0 then [] else [d]) else d :: trimN l := by
  unfold trimN
  rw [List.reverse_cons, List.dropWhile_append]
  by_cases h : List.dropWhile (fun x => x == 0) l.reverse = []
  · simp [h]
    by_cases hd : d = 0 <;> simp [hd]
  · simp [h]

theorem digs_val (B : Nat) (hB : 2 ≤ B) : ∀ l : List Nat, (∀ d ∈ l, d < B) → digs B (val B l) = trimN l
  | [], _ => by rw [val_nil, digs_zero]; rfl
  | d :: l, h => by
    have ih := digs_val B hB l (fun x hx => h x (List.mem_cons_of_mem _ hx))
    have hd : d < B := h d List.mem_cons_self
    rw [trimN_cons, val_cons, ← ih]
    by_cases hz : val B l = 0
    · rw [hz, digs_zero]; simp
      by_cases h0 : d = 0
      · subst h0; rw [digs_zero]; simp
      · rw [digs_pos B d hB (by omega), Nat.mod_eq_of_lt hd, Nat.div_eq_of_lt hd, digs_zero]; simp [h0]
    · have hp : 0 < val B l := by omega
      have hpos : 0 < d + B * val B l := by have := Nat.mul_pos (show 0 < B by omega) hp; omega
      rw [digs_pos B _ hB hpos, Nat.add_mul_mod_self_left, Nat.mod_eq_of_lt hd, Nat.add_mul_div_left _ _ (by omega), Nat.div_eq_of_lt hd, Nat.zero_add]
      rw [if_neg]
      rw [digs_pos B _ hB hp]; simp

theorem val_append (B : Nat) : ∀ a b : List Nat, val B (a ++ b) = val B a + B ^ a.length * val B b
  | [], b => by simp
  | d :: a, b => by
    rw [List.cons_append, val_cons, val_cons, val_append B a b, List.length_cons, Nat.pow_succ]
    grind

theorem val_take_succ (B : Nat) (l : List Nat) (k : Nat) (h : k < l.length) : val B (l.take (k + 1)) = val B (l.take k) + l[k] * B ^ k := by
  rw [List.take_succ_eq_append_getElem h, val_append, val_cons]
  simp [Nat.min_eq_left (Nat.le_of_lt h), Nat.mul_comm]

theorem val_replicate_zero (B n : Nat) : val B (List.replicate n 0) = 0 := by
  induction n with
  | zero => rfl
  | succ n ih => rw [List.replicate_succ, val_cons, ih]; simp

theorem val_set (B : Nat) : ∀ (l : List Nat) (k v : Nat) (h : k < l.length), val B (l.set k v) + l[k] * B ^ k = val B l + v * B ^ k
  | d :: l, 0, v, _ => by simp [val_cons]; omega
  | d :: l, k + 1, v, h => by
    have ih := val_set B l k v (by simpa using h)
    simp only [List.set_cons_succ, val_cons, List.getElem_cons_succ, Nat.pow_succ]
    grind

theorem val_lt (B : Nat) (hB : 2 ≤ B) : ∀ l : List Nat, (∀ d ∈ l, d < B) → val B l < B ^ l.length
  | [], _ => by simp
  | d :: l, h => by
    have ih := val_lt B hB l (fun x hx => h x (List.mem_cons_of_mem _ hx))
    have hd : d < B := h d List.mem_cons_self
    rw [val_cons, List.length_cons, Nat.pow_succ]
    have : B * (val B l + 1) ≤ B * B ^ l.length := Nat.mul_le_mul_left _ ih
    grind

theorem trimN_length (l : List Nat) : (trimN l).length ≤ l.length := by
  unfold trimN
  have := (List.dropWhile_suffix (fun x : Nat => x == 0) (l := l.reverse)).length_le
  simpa using this

theorem trimN_prefix : ∀ l : List Nat, trimN l = l.take (trimN l).length
  | [] => rfl
  | d :: l => by
    have ih := trimN_prefix l
    rw [trimN_cons]
    split
    · split <;> simp
    · simpa using ih

theorem digs_length_le (B : Nat) (hB : 2 ≤ B) (n L : Nat) (h : n < B ^ L) : (digs B n).length ≤ L := by
  induction L generalizing n with
  | zero => have : n = 0 := by simpa using h
            subst this; rw [digs_zero]; simp
  | succ L ih =>
    by_cases h0 : n = 0
    · subst h0; rw [digs_zero]; simp
    · rw [digs_pos B n hB (by omega), List.length_cons]
      have := ih (n / B) (by rw [Nat.div_lt_iff_lt_mul (by omega)]; rwa [Nat.pow_succ] at h)
      omega

theorem lt_pow_digs (B : Nat) (hB : 2 ≤ B) (n : Nat) : n < B ^ (digs B n).length := by
  have := val_lt B hB (digs B n) (digs_lt B hB n)
  rwa [val_digs B hB] at this

theorem digs_length_mono (B : Nat) (hB : 2 ≤ B) (m n : Nat) (h : m ≤ n) : (digs B m).length ≤ (digs B n).length :=
  digs_length_le B hB m _ (Nat.lt_of_le_of_lt h (lt_pow_digs B hB n))

theorem digs_length_mul (B : Nat) (hB : 2 ≤ B) (m n : Nat) : (digs B (m * n)).length ≤ (digs B m).length + (digs B n).length := by
  refine digs_length_le B hB _ _ ?_
  rw [Nat.pow_add]
  exact Nat.mul_lt_mul'' (lt_pow_digs B hB m) (lt_pow_digs B hB n)

theorem digs_length_add (B : Nat) (hB : 2 ≤ B) (m n : Nat) : (digs B (m + n)).length ≤ max (digs B m).length (digs B n).length + 1 := by
  refine digs_length_le B hB _ _ ?_
  have h1 : m < B ^ max (digs B m).length (digs B n).length := Nat.lt_of_lt_of_le (lt_pow_digs B hB m) (Nat.pow_le_pow_right (by omega) (by omega))
  have h2 : n < B ^ max (digs B m).length (digs B n).length := Nat.lt_of_lt_of_le (lt_pow_digs B hB n) (Nat.pow_le_pow_right (by omega) (by omega))
  rw [Nat.pow_succ]
  have : B ^ max (digs B m).length (digs B n).length * 2 ≤ B ^ max (digs B m).length (digs B n).length * B := Nat.mul_le_mul_left _ hB
  omega

/-- the last digit is not zero -/
theorem digs_last (B : Nat) (hB : 2 ≤ B) (n : Nat) (h : 0 < (digs B n).length) : 0 < (digs B n)[(digs B n).length - 1] := by
  have h1 := digs_val B hB (digs B n) (digs_lt B hB n)
  rw [val_digs B hB] at h1
  apply Nat.pos_of_ne_zero
  intro hz
  have h2 : digs B n = (digs B n).take ((digs B n).length - 1) ++ [0] := by
    conv => lhs; rw [← List.take_length (l := digs B n), show (digs B n).length = (digs B n).length - 1 + 1 from by omega]
    rw [List.take_succ_eq_append_getElem (by omega), hz]
  have h3 : (trimN (digs B n)).length < (digs B n).length := by
    conv => lhs; rw [h2]
    rw [trimN_append_zero]
    have := trimN_length ((digs B n).take ((digs B n).length - 1))
    rw [List.length_take] at this
    omega
  rw [← h1] at h3
  omega

theorem digs_ge (B : Nat) (hB : 2 ≤ B) (n : Nat) (h : 0 < (digs B n).length) : B ^ ((digs B n).length - 1) ≤ n := by
  have hl := digs_last B hB n h
  have h2 := val_take_succ B (digs B n) ((digs B n).length - 1) (by omega)
  rw [show (digs B n).length - 1 + 1 = (digs B n).length from by omega, List.take_length, val_digs B hB] at h2
  have : 1 * B ^ ((digs B n).length - 1) ≤ (digs B n)[(digs B n).length - 1] * B ^ ((digs B n).length - 1) := Nat.mul_le_mul_right _ hl
  omega

theorem digs_eq_nil (B : Nat) (hB : 2 ≤ B) (n : Nat) : (digs B n).length = 0 ↔ n = 0 := by
  constructor
  · intro h
    have := lt_pow_digs B hB n
    rw [h] at this; simpa using this
  · rintro rfl; rw [digs_zero]; rfl

/-- less digits: less -/
theorem lt_of_digs (B : Nat) (hB : 2 ≤ B) (m n : Nat) (h : (digs B m).length < (digs B n).length) : m < n :=
  Nat.lt_of_lt_of_le (lt_pow_digs B hB m) (Nat.le_trans (Nat.pow_le_pow_right (by omega) (by omega)) (digs_ge B hB n (by omega)))

end Go.Proofs.YtpjjbdpkhmeldaaDoor
