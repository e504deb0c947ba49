/- contract of ratio's divide -/
import Derived.Test.YtpjjbdpkhmeldaaDoorA5
import Derived.Test.YtpjjbdpkhmeldaaDoorP1
import Derived.Test.YtpjjbdpkhmeldaaDoorShelf
import Derived.Laws.MathBits
namespace Go.Proofs.YtpjjbdpkhmeldaaDoor
open Go.RowKit

theorem bitLen_pos (x : Nat) (h : 0 < x) (h2 : x < 4294967296) : 1 ≤ Go.Lib.bitLen x ∧ Go.Lib.bitLen x ≤ 32 := by
  rw [Go.Lib.bitLen_half x (by omega) (Nat.lt_of_lt_of_le h2 (by decide))]
  have := Go.Lib.bitLen_le x 32 (by omega) h2
  rw [Go.Lib.bitLen_half x (by omega) (Nat.lt_of_lt_of_le h2 (by decide))] at this
  omega

theorem lz_any (x : Nat) (w : World) (h0 : 0 < x) (h1 : x < 4294967296) :
    Calls Tryd.prog 55 #[.int .u32 x] w fun e w' => ∃ s : Nat, s < 32 ∧ e = .returned (.int .i64 (s : Int)) ∧ w = w' := by
  refine (Tryd.bits_LeadingZeros32 x w (by omega) (by omega)).mono ?_
  rintro e w' ⟨rfl, rfl⟩
  obtain ⟨h2, h3⟩ := bitLen_pos x h0 h1
  rw [Int.toNat_natCast]
  exact ⟨32 - Go.Lib.bitLen x, by omega, congrArg (fun z => Ending.returned (Value.int .i64 z)) (by omega), rfl⟩

/-- two rows of the call's own -/
def Row2 (w wr : World) (br bq R Q : Nat) (p : List Nat → List Nat → Prop) : Prop :=
  w.heap.size ≤ br ∧ w.heap.size ≤ bq ∧ br ≠ bq ∧ Below w.heap.size w wr ∧ ∃ ro qo : List Nat, ro.length = R ∧ qo.length = Q ∧ (∀ d ∈ ro, d < W32) ∧ (∀ d ∈ qo, d < W32) ∧ p ro qo ∧ Blk wr br 65 .u32 ro ∧ Blk wr bq 65 .u32 qo

theorem mem_set_lt {o : List Nat} {B : Nat} (h : ∀ d ∈ o, d < B) (i v : Nat) (hv : v < B) : ∀ d ∈ o.set i v, d < B := by
  intro d hd
  rcases List.mem_or_eq_of_mem_set hd with h' | h'
  · exact h d h'
  · subst h'; exact hv

theorem Row2.setR {w wr : World} {br bq R Q : Nat} {p q : List Nat → List Nat → Prop} (h : Row2 w wr br bq R Q p) (i : Nat) (v : Nat) (z : Int) (hz : z = (v : Int)) (hv : v < W32)
    (hq : ∀ ro qo : List Nat, ro.length = R → qo.length = Q → (∀ d ∈ ro, d < W32) → p ro qo → q (ro.set i v) qo) : Row2 w (wr.setCell ⟨br, i, none⟩ (.int .u32 z)) br bq R Q q := by
  obtain ⟨h1, h2, h3, h4, ro, qo, h5, h6, h7, h8, h9, h10, h11⟩ := h
  subst hz
  exact ⟨h1, h2, h3, h4.setCell (by exact h1) _, ro.set i v, qo, by rw [List.length_set]; exact h5, h6, mem_set_lt h7 i v hv, h8, hq ro qo h5 h6 h7 h9, h10.set i v, h11.other (fun e => h3 e.symm) _ _⟩

theorem Row2.setQ {w wr : World} {br bq R Q : Nat} {p q : List Nat → List Nat → Prop} (h : Row2 w wr br bq R Q p) (i : Nat) (v : Nat) (z : Int) (hz : z = (v : Int)) (hv : v < W32)
    (hq : ∀ ro qo : List Nat, ro.length = R → qo.length = Q → p ro qo → q ro (qo.set i v)) : Row2 w (wr.setCell ⟨bq, i, none⟩ (.int .u32 z)) br bq R Q q := by
  obtain ⟨h1, h2, h3, h4, ro, qo, h5, h6, h7, h8, h9, h10, h11⟩ := h
  subst hz
  exact ⟨h1, h2, h3, h4.setCell (by exact h2) _, ro, qo.set i v, h5, by rw [List.length_set]; exact h6, h7, mem_set_lt h8 i v hv, hq ro qo h5 h6 h9, h10.other h3 _ _, h11.set i v⟩

theorem Row2.weaken {w wr : World} {br bq R Q : Nat} {p q : List Nat → List Nat → Prop} (h : Row2 w wr br bq R Q p) (hq : ∀ ro qo : List Nat, ro.length = R → qo.length = Q → (∀ d ∈ ro, d < W32) → p ro qo → q ro qo) : Row2 w wr br bq R Q q := by
  obtain ⟨h1, h2, h3, h4, ro, qo, h5, h6, h7, h8, h9, h10, h11⟩ := h
  exact ⟨h1, h2, h3, h4, ro, qo, h5, h6, h7, h8, hq ro qo h5 h6 h7 h9, h10, h11⟩

theorem Row2.drewN {w wr : World} {br bq R Q : Nat} {p : List Nat → List Nat → Prop} (h : Row2 w wr br bq R Q p) (j : Nat) : Row2 w (wr.drewN j) br bq R Q p := by
  obtain ⟨h1, h2, h3, h4, ro, qo, h5, h6, h7, h8, h9, h10, h11⟩ := h
  exact ⟨h1, h2, h3, below_drewN h4 j, ro, qo, h5, h6, h7, h8, h9, h10, h11⟩

theorem Row2.atR {w wr : World} {br bq R Q : Nat} {p : List Nat → List Nat → Prop} (h : Row2 w wr br bq R Q p) (i : Nat) (hi : i < R) :
    ∃ d : Nat, d < 4294967296 ∧ wr.cell? ⟨br, i, none⟩ = some (.int .u32 (d : Int)) ∧ wr.frozen? ⟨br, i, none⟩ = false ∧ Row2 w wr br bq R Q (fun ro qo => p ro qo ∧ ro[i]? = some d) := by
  obtain ⟨h1, h2, h3, h4, ro, qo, h5, h6, h7, h8, h9, h10, h11⟩ := h
  exact ⟨ro[i], h7 _ (List.getElem_mem _), h10.cell i (by omega), h10.free i, h1, h2, h3, h4, ro, qo, h5, h6, h7, h8, ⟨h9, List.getElem?_eq_getElem (by omega)⟩, h10, h11⟩

theorem Row2.atQ {w wr : World} {br bq R Q : Nat} {p : List Nat → List Nat → Prop} (h : Row2 w wr br bq R Q p) (i : Nat) (hi : i < Q) :
    (∃ v, wr.cell? ⟨bq, i, none⟩ = some v) ∧ wr.frozen? ⟨bq, i, none⟩ = false := by
  obtain ⟨h1, h2, h3, h4, ro, qo, h5, h6, h7, h8, h9, h10, h11⟩ := h
  exact ⟨⟨_, h11.cell i (by omega)⟩, h11.free i⟩

theorem Row2.facts {w wr : World} {br bq R Q : Nat} {p : List Nat → List Nat → Prop} (h : Row2 w wr br bq R Q p) :
    ∃ ro qo : List Nat, ro.length = R ∧ qo.length = Q ∧ (∀ d ∈ ro, d < W32) ∧ (∀ d ∈ qo, d < W32) ∧ p ro qo ∧ Blk wr br 65 .u32 ro ∧ Blk wr bq 65 .u32 qo ∧ Below w.heap.size w wr := by
  obtain ⟨h1, h2, h3, h4, ro, qo, h5, h6, h7, h8, h9, h10, h11⟩ := h
  exact ⟨ro, qo, h5, h6, h7, h8, h9, h10, h11, h4⟩

theorem Row2.below {w wr : World} {br bq R Q : Nat} {p : List Nat → List Nat → Prop} (h : Row2 w wr br bq R Q p) : Below w.heap.size w wr := h.2.2.2.1

theorem Row2.start0 {w w4 w5 w6 : World} {U D R Q top : Nat} {us ds : List Nat} (vU : val W32 us = U) (vD : val W32 ds = D) (lU : ∀ d ∈ us, d < 4294967296) (hR : us.length < R) (hQ : R = Q + ds.length) (hL : 0 < ds.length) (hta : ds[ds.length - 1]? = some top) (htp : 0 < top)
    (hb4 : Below w.heap.size w w4) (hB5 : Blk w5 w.heap.size 65 .u32 (us ++ (List.replicate R 0).drop us.length)) (hb5 : Below w.heap.size w4 w5) (hB6 : Blk w6 w5.heap.size 65 .u32 (List.replicate Q 0)) (hb6 : Below w5.heap.size w5 w6) :
    Row2 w w6 w.heap.size w5.heap.size R Q (OutP W32 U D Q) := by
  have h1 := hB5.lt
  refine ⟨Nat.le_refl _, by omega, by omega, (hb4.trans hb5).trans (hb6.mono (by omega)), _, _, ?_, ?_, ?_, ?_, ?_, hB5.below hb6, hB6⟩
  · simp; omega
  · simp
  · intro d hd
    rcases List.mem_append.1 hd with h | h
    · exact lU d h
    · have := List.mem_of_mem_drop h
      rw [List.mem_replicate] at this
      unfold W32; omega
  · intro d hd
    rw [List.mem_replicate] at hd
    unfold W32; omega
  · exact OutP.start W32_ge vU vD lU hR hQ (by simp) hL top hta htp

theorem Row2.fix {w wr : World} {br bq R Q : Nat} {p : List Nat → List Nat → Prop} (h : Row2 w wr br bq R Q p) : ∃ ro qo, Row2 w wr br bq R Q (fun r q => r = ro ∧ q = qo) ∧ ro.length = R ∧ (∀ d ∈ ro, d < W32) ∧ qo.length = Q ∧ p ro qo := by
  obtain ⟨h1, h2, h3, h4, ro, qo, h5, h6, h7, h8, h9, h10, h11⟩ := h
  exact ⟨ro, qo, ⟨h1, h2, h3, h4, ro, qo, h5, h6, h7, h8, ⟨rfl, rfl⟩, h10, h11⟩, h5, h7, h6, h9⟩

theorem min_guess (num top : Nat) (h : num < 18446744073709551616) (_ht : 0 < top) : ∃ g : Nat, min (IntKind.u64.wrap ((num : Int) / (top : Int))) 4294967295 = (g : Int) ∧ g < 4294967296 ∧ (num / top ≤ g ∨ W32 - 1 ≤ g) := by
  have h1 : num / top ≤ num := Nat.div_le_self _ _
  rw [← Int.natCast_ediv]
  generalize num / top = q at *
  rw [u64_id _ (by omega)]
  exact ⟨min q 4294967295, by omega, by omega, by unfold W32; omega⟩

theorem sub3 {a b c : Nat} (_hc : c ≤ 1) : (b + c ≤ a) ∨ (a < b) ∨ (a ≤ b ∧ b ≤ a ∧ a < b + c) := by omega

/-- the number that the window's top stands for, in 64 bits -/
def CorS (T eL ν : Nat) : Prop := ((ν = 0 ∧ T = eL) ∨ (ν = 1 ∧ T = eL + 18446744069414584320)) ∧ eL < 4294967296

theorem cor_start (r cy bw : Nat) (hr : r < 4294967296) (hcy : cy < 4294967296) (hbw : bw ≤ 1) :
    ∃ T eL ν : Nat, IntKind.u64.wrap (IntKind.u64.wrap ((r : Int) - (cy : Int)) - (bw : Int)) = (T : Int) ∧ T < 18446744073709551616 ∧ T % 4294967296 = eL ∧ CorS T eL ν ∧ ((cy + bw ≤ r ∧ eL = r - (cy + bw) ∧ ν = 0) ∨ (r < cy + bw ∧ eL + (cy + bw) = r + 4294967296 ∧ ν = 1)) := by
  have e : IntKind.u64.wrap (IntKind.u64.wrap ((r : Int) - (cy : Int)) - (bw : Int)) = ((r : Int) - cy - bw) % 18446744073709551616 := by
    simp only [IntKind.wrap, IntKind.bits, IntKind.signed]; simp
  rw [e]
  by_cases h : cy + bw ≤ r
  · exact ⟨r - (cy + bw), r - (cy + bw), 0, by omega, by omega, by omega, ⟨.inl ⟨rfl, rfl⟩, by omega⟩, .inl ⟨h, rfl, rfl⟩⟩
  · exact ⟨r + 4294967296 - (cy + bw) + 18446744069414584320, r + 4294967296 - (cy + bw), 1, by omega, by omega, by omega, ⟨.inr ⟨rfl, rfl⟩, by omega⟩, .inr ⟨by omega, by omega, rfl⟩⟩

theorem cor_next (T eL s : Nat) (h : CorS T eL 1) (hs : s ≤ 1) :
    ∃ T2 : Nat, IntKind.u64.wrap ((T : Int) + (s : Int)) = (T2 : Int) ∧ T2 < 18446744073709551616 ∧ T2 % 4294967296 = (eL + s) % 4294967296 ∧ CorS T2 ((eL + s) % 4294967296) (1 - (eL + s) / 4294967296) := by
  obtain ⟨h1, h2⟩ := h
  have e : IntKind.u64.wrap ((T : Int) + (s : Int)) = ((T : Int) + s) % 18446744073709551616 := by
    simp only [IntKind.wrap, IntKind.bits, IntKind.signed]; simp
  rw [e]
  exact ⟨(T + s) % 18446744073709551616, by omega, by omega, by omega, by omega, by omega⟩

theorem digs_top (n : Nat) (h : 0 < (digs W32 n).length) : ∃ t, 0 < t ∧ t < 4294967296 ∧ (digs W32 n)[(digs W32 n).length - 1]? = some t :=
  ⟨_, digs_last W32 W32_ge n h, digs_lt32 n _ (List.getElem_mem _), List.getElem?_eq_getElem (by omega)⟩

theorem shift_lens (m s : Nat) (hs : s < 32) : (digs W32 m).length ≤ (digs W32 (m * 2 ^ s)).length ∧ (digs W32 (m * 2 ^ s)).length ≤ (digs W32 m).length + 1 := by
  have h1 : 1 ≤ 2 ^ s := Nat.two_pow_pos s
  refine ⟨digs_length_mono W32 W32_ge _ _ ?_, ?_⟩
  · have := Nat.mul_le_mul_left m h1; omega
  · refine digs_length_le W32 W32_ge _ _ ?_
    have h2 := lt_pow_digs W32 W32_ge m
    have h3 : 2 ^ s ≤ 2 ^ 32 := Nat.pow_le_pow_right (by omega) (by omega)
    have h4 : m * 2 ^ s ≤ m * 2 ^ 32 := Nat.mul_le_mul_left m h3
    rw [Nat.pow_succ]
    have h5 : m * 2 ^ 32 < W32 ^ (digs W32 m).length * 2 ^ 32 := Nat.mul_lt_mul_of_pos_right h2 (by decide)
    exact Nat.lt_of_le_of_lt h4 h5

theorem cmp_any (va vb : Value) (m n : Nat) (w : World) (ha : NatV w .u32 W32 va m) (hb : NatV w .u32 W32 vb n) (hma : (digs W32 m).length ≤ 1000000) (hmb : (digs W32 n).length ≤ 1000000) :
    Calls Tryd.prog 20 #[va, vb] w fun e w' => e = .returned (.int .i64 (cmpN m n)) ∧ Below w.heap.size w w' := by
  by_cases h : (digs W32 m).length = (digs W32 n).length
  · exact cmp_eq va vb m n w ha hb hma h
  · exact cmp_ne va vb m n w ha hb hma hmb h

set_option maxRecDepth 100000 in
set_option maxHeartbeats 1000000 in
theorem divide_less (va vb : Value) (m n : Nat) (w : World) (ha : NatV w .u32 W32 va m) (hb : NatV w .u32 W32 vb n) (hma : (digs W32 m).length ≤ 10000) (hmb : (digs W32 n).length ≤ 10000) (hmn : m < n) :
    Calls Tryd.prog 39 #[va, vb] w fun e w' => ∃ v1 v2, e = .returned (.tuple #[v1, v2]) ∧ NatV w' .u32 W32 v1 (m / n) ∧ NatV w' .u32 W32 v2 (m % n) ∧ Below w.heap.size w w' := by
  have hc := cmp_any va vb m n w ha hb (by omega) (by omega)
  rw [cmpN_lt hmn] at hc
  have HC := Lib.hid hc; clear hc
  rw [Nat.div_eq_of_lt hmn, Nat.mod_eq_of_lt hmn]
  go_enter Tryd.func39, Tryd.ntmps39
  go_wp2_with fail
  refine (HC.out).mono ?_
  rintro e w' ⟨rfl, hbl⟩
  go_wp2
  go_ret2
  refine ⟨_, _, rfl, ⟨none, 0, ?_, ?_, ?_⟩, ha.below hbl, hbl⟩
  · rw [digs_zero]; rfl
  · rw [digs_zero]; simp
  · rw [digs_zero]; intro i hi; simp at hi

set_option maxRecDepth 100000 in
set_option maxHeartbeats 1000000 in
theorem divide_one (va vb : Value) (m n : Nat) (w : World) (ha : NatV w .u32 W32 va m) (hb : NatV w .u32 W32 vb n) (hma : (digs W32 m).length ≤ 10000) (hmb : (digs W32 n).length = 1) (hmn : n ≤ m) :
    Calls Tryd.prog 39 #[va, vb] w fun e w' => ∃ v1 v2, e = .returned (.tuple #[v1, v2]) ∧ NatV w' .u32 W32 v1 (m / n) ∧ NatV w' .u32 W32 v2 (m % n) ∧ Below w.heap.size w w' := by
  have hn0 : 0 < n := by
    rcases Nat.eq_zero_or_pos n with rfl | h
    · rw [digs_zero] at hmb; cases hmb
    · exact h
  have hn1 : n < 4294967296 := by
    have := lt_pow_digs W32 W32_ge n
    rw [hmb] at this; simpa [W32] using this
  have hdn : digs W32 n = [n] := by
    rw [digs_pos W32 n W32_ge hn0, Nat.mod_eq_of_lt (by unfold W32; exact hn1), Nat.div_eq_of_lt (by unfold W32; exact hn1), digs_zero]
  have hc := cmp_any va vb m n w ha hb (by omega) (by omega)
  have HC : ∃ c : Int, 0 ≤ c ∧ Calls Tryd.prog 20 #[va, vb] w fun e w' => e = .returned (.int .i64 c) ∧ Below w.heap.size w w' := by
    refine ⟨cmpN m n, ?_, hc⟩
    unfold cmpN; split
    · omega
    · split <;> omega
  obtain ⟨c, hc0, HC⟩ := HC
  clear hc
  obtain ⟨ab, cb, rfl, hcb, rb⟩ := hb
  rw [hdn] at rb
  obtain ⟨b2, o2, rfl, hb2, hc2⟩ := rb 0 (by simp)
  simp only [Nat.add_zero, List.getElem_cons_zero] at hc2
  rw [hmb] at HC
  have HC' := Lib.hid HC; clear HC
  rw [hmb]
  have Hdn := Lib.hid hdn; clear hdn hmb
  go_enter Tryd.func39, Tryd.ntmps39
  go_wp2_with fail
  refine (HC'.out).mono ?_
  rintro e w1 ⟨rfl, hbl⟩
  rw [← hbl.cell (p := ⟨b2, o2, none⟩) hb2] at hc2
  have ha1 := ha.below hbl
  go_wp2_with fail
  have hmod : m % n < n := Nat.mod_lt _ hn0
  have hsh := short_any va m n w1 ha1 (by omega) hn0 hn1
  obtain ⟨r, hr⟩ : ∃ r, r = m % n := ⟨_, rfl⟩
  obtain ⟨q, hq⟩ : ∃ q, q = m / n := ⟨_, rfl⟩
  rw [← hr, ← hq] at hsh
  rw [← hr] at hmod
  have Hr := Lib.hid hr; have Hq := Lib.hid hq
  clear hr hq
  refine hsh.mono ?_
  rintro e w2 ⟨v1, rfl, hv1, hb1⟩
  clear hsh
  go_wp2_with fail
  refine (word_any r w2 (by omega)).mono ?_
  rintro e w3 ⟨v2, rfl, hv2, hb2⟩
  go_wp2
  go_ret2
  have e1 := Hr.out; have e2 := Hq.out
  rw [e1] at hv2; rw [e2] at hv1
  exact ⟨_, _, rfl, hv1.below hb2, hv2, (hbl.trans (hb1.mono hbl.size)).trans (hb2.mono (Nat.le_trans hbl.size hb1.size))⟩

set_option maxRecDepth 100000 in
set_option maxHeartbeats 4000000 in
theorem divide_big (va vb : Value) (m n : Nat) (w : World) (ha : NatV w .u32 W32 va m) (hb : NatV w .u32 W32 vb n) (hma : (digs W32 m).length ≤ 10000) (hmb : 2 ≤ (digs W32 n).length) (hmn : n ≤ m) :
    Calls Tryd.prog 39 #[va, vb] w fun e w' => ∃ v1 v2, e = .returned (.tuple #[v1, v2]) ∧ NatV w' .u32 W32 v1 (m / n) ∧ NatV w' .u32 W32 v2 (m % n) ∧ Below w.heap.size w w' := by
  have hlmn := digs_length_mono W32 W32_ge n m hmn
  have hc := cmp_any va vb m n w ha hb (by omega) (by omega)
  have HC : ∃ c : Int, 0 ≤ c ∧ Calls Tryd.prog 20 #[va, vb] w fun e w' => e = .returned (.int .i64 c) ∧ Below w.heap.size w w' := by
    refine ⟨cmpN m n, ?_, hc⟩
    unfold cmpN; split
    · omega
    · split <;> omega
  obtain ⟨c, hc0, HC⟩ := HC
  clear hc
  -- the top word of the divisor
  obtain ⟨ab, cb, rfl, hcb, rb⟩ := id hb
  obtain ⟨b2, o2, rfl, hb2, hc2⟩ := rb ((digs W32 n).length - 1) (by omega)
  have htop := digs_last W32 W32_ge n (by omega)
  have htop2 := digs_lt32 n _ (List.getElem_mem (l := digs W32 n) (n := (digs W32 n).length - 1) (by omega))
  generalize (digs W32 n)[(digs W32 n).length - 1]'(by omega) = tw at *
  have hla : ∃ la, la = (digs W32 m).length := ⟨_, rfl⟩
  obtain ⟨la, hla⟩ := hla
  obtain ⟨lb, hlb⟩ : ∃ lb, lb = (digs W32 n).length := ⟨_, rfl⟩
  rw [← hlb] at hc2 HC hmb hlmn hb hcb
  rw [← hlb]
  rw [← hla] at hlmn hma
  have HC' := Lib.hid HC; have HLA := Lib.hid hla; have HLB := Lib.hid hlb
  obtain ⟨aa, ca, rfl, hca, ra⟩ := id ha
  rw [← hla] at ha hca HC'
  rw [← hla]
  have hneq : ((lb : Int) == 1) = false := by simp; omega
  clear HC hla hlb
  go_enter Tryd.func39, Tryd.ntmps39
  go_wp2_with fail
  refine (HC'.out).mono ?_
  rintro e w1 ⟨rfl, hbl⟩
  rw [← hbl.cell (p := ⟨b2, o2 + (lb - 1), none⟩) hb2] at hc2
  have ha1 := ha.below hbl
  have hb1 := hb.below hbl
  go_wp2_with fail
  refine (lz_any tw w1 htop htop2).mono ?_
  rintro e w1' ⟨s, hs, rfl, rfl⟩
  go_wp2_with fail
  refine (shift_any _ n s w1 hb1 (by have := HLB.out; omega) hs).mono ?_
  rintro e w2 ⟨vd, rfl, hvd, hbl2⟩
  have ha2 := ha1.below hbl2
  go_wp2_with fail
  refine (shift_any _ m s w2 ha2 (by have := HLA.out; omega) hs).mono ?_
  rintro e w3 ⟨vu, rfl, hvu, hbl3⟩
  have hvd3 := hvd.below hbl3
  have hb03 : Below w.heap.size w w3 := (hbl.trans (hbl2.mono hbl.size)).trans (hbl3.mono (Nat.le_trans hbl.size hbl2.size))
  clear ha1 hb1 ha2 hvd hbl2 hbl3 hc2 ra rb
  have hd2 := shift_lens n s hs
  have hu2 := shift_lens m s hs
  have hdu := digs_length_mono W32 W32_ge (n * 2 ^ s) (m * 2 ^ s) (Nat.mul_le_mul_right _ hmn)
  rw [← HLA.out] at hu2
  rw [← HLB.out] at hd2
  have vD := val_digs W32 W32_ge (n * 2 ^ s)
  have vU := val_digs W32 W32_ge (m * 2 ^ s)
  have lD := digs_lt32 (n * 2 ^ s)
  have lU := digs_lt32 (m * 2 ^ s)
  obtain ⟨top, htp, htl, hta⟩ := digs_top (n * 2 ^ s) (by omega)
  obtain ⟨ad, cd, rfl, hcd, rd⟩ := hvd3
  obtain ⟨au, cu, rfl, hcu, ru⟩ := hvu
  generalize digs W32 (n * 2 ^ s) = ds at *
  generalize digs W32 (m * 2 ^ s) = us at *
  obtain ⟨U, hU⟩ : ∃ U, U = m * 2 ^ s := ⟨_, rfl⟩
  obtain ⟨D, hD⟩ : ∃ D, D = n * 2 ^ s := ⟨_, rfl⟩
  rw [← hU] at vU
  rw [← hD] at vD
  have VU := Lib.hid vU; have VD := Lib.hid vD; have LD := Lib.hid lD; have LU := Lib.hid lU; have HU := Lib.hid hU; have HD := Lib.hid hD
  have hdl : 1 < ds.length := by omega
  have hdl3 : ds.length ≤ 10001 := by omega
  have hul : us.length ≤ 10001 := by omega
  clear vU vD lD lU hU hD
  obtain ⟨bd, od, rfl, hbd, hcd2⟩ := rd (ds.length - 1) (by omega)
  rw [(List.getElem?_eq_some_iff.1 hta).2] at hcd2
  have HTA := Lib.hid hta
  clear hta
  obtain ⟨R, hR1, hR2, hR3⟩ : ∃ R : Nat, us.length + 1 ≤ R ∧ la + 1 ≤ R ∧ (R ≤ us.length + 1 ∨ R ≤ la + 1) := ⟨max us.length la + 1, by omega, by omega, by omega⟩
  have hRb : R ≤ 20000 := by omega
  obtain ⟨Q, hQ⟩ : ∃ Q, R = Q + ds.length := ⟨R - ds.length, by omega⟩
  have hQ1 : R ≤ Q + ds.length := by omega
  have hQ2 : Q + ds.length ≤ R := by omega
  have HQ := Lib.hid hQ
  clear hQ
  go_wp2_with (first
    | (at_make; refine wpList_make_row _ rfl (.tmp 64) (.tmp 64) 42 rfl 65 .u32 4 (by kernel_rfl) u32_type .i64 .i64 _ _ R rfl rfl (by omega) (by omega) (by omega) (by omega) ?_; intro w4 hB4 hb4 hs4)
    | (with_reducible show wpList _ _ _ _ _ _; refine wpList_copy_row rfl (.tmp 66) (.tmp 67) 42 42 rfl 65 (by kernel_rfl) u32_size _ _ _ _ _ _ rfl rfl 65 .u32 (List.replicate R 0) us (by simp) rfl hB4 (ru.below hb4) (by simp; omega) ?_; intro w5 hB5 hb5; rw [← (hb4.trans hb5).cell (p := ⟨bd, od + (ds.length - 1), none⟩) hbd] at hcd2)
    | (at_make; refine wpList_make_row _ rfl (.tmp 80) (.tmp 80) 42 rfl 65 .u32 4 (by kernel_rfl) u32_type .i64 .i64 _ _ Q rfl rfl (by omega) (by omega) (by omega) (by omega) ?_; intro w6 hB6 hb6 hs6))
  have start := Row2.start0 (w := w3) VU.out VD.out LU.out (by omega) HQ.out (by omega) HTA.out htp hb4 hB5 hb5 hB6 hb6
  clear hB4 hb4 hs4 hB5 hb5 hB6 hb6 hs6
  obtain ⟨br, hbr⟩ : ∃ br, br = w3.heap.size := ⟨_, rfl⟩
  obtain ⟨bq, hbq⟩ : ∃ bq, bq = w5.heap.size := ⟨_, rfl⟩
  rw [← hbr, ← hbq] at start
  rw [← hbr, ← hbq]
  have hne : br ≠ bq := start.2.2.1
  clear hbr hbq
  go_loopw [14] (fun s14 wr => ∃ i : Nat, i ≤ Q ∧ s14 = .int .i64 ((i : Int) - 1) ∧ Row2 w3 wr br bq R Q (OutP W32 U D i)) (fun s14 _ => (intOf s14 + 1).toNat)
  case atStart => exact ⟨Q, by omega, rfl, start⟩
  case round =>
    obtain ⟨i, hi, rfl, inv⟩ := hrel
    clear start hcd2
    cases i with
    | zero =>
      obtain ⟨ro, qo, hrl, hql, hrd, hqd, hop, hrb, hqb, hbl⟩ := inv.facts
      obtain ⟨f1, f2⟩ := OutP.fin hop
      have hp : 0 < 2 ^ s := Nat.two_pow_pos s
      have hq1 : val W32 qo = m / n := by rw [f1, HU.out, HD.out, Nat.mul_div_mul_right _ _ hp]
      have hr1 : val W32 ro = (m % n) * 2 ^ s := by rw [f2, HU.out, HD.out, Nat.mul_mod_mul_right]
      have HQ1 := Lib.hid hq1; have HR1 := Lib.hid hr1; have HQD := Lib.hid hqd; have HRD := Lib.hid hrd; have HQL := Lib.hid hql; have HRL := Lib.hid hrl
      have hlq : qo.length ≤ Q := by omega
      have hlr : ro.length ≤ R := by omega
      have hlm : (digs W32 ((m % n) * 2 ^ s)).length ≤ 100000 := by
        refine Nat.le_trans (digs_length_le W32 W32_ge _ ro.length ?_) (by omega : ro.length ≤ 100000)
        rw [← hr1]; exact val_lt W32 W32_ge ro hrd
      clear hop f1 f2 hp hq1 hr1 hqd hrd hql hrl
      go_wp2_with fail
      rw [show Q = qo.length from HQL.out.symm]
      refine (trim_ds (some ⟨bq, 0, none⟩) qo.length qo _ (by omega) (by omega) hqb.rd).mono ?_
      rintro e w7 ⟨rfl, rfl⟩
      go_wp2_with fail
      rw [show R = ro.length from HRL.out.symm]
      refine (trim_ds (some ⟨br, 0, none⟩) ro.length ro _ (by omega) (by omega) hrb.rd).mono ?_
      rintro e w7 ⟨rfl, rfl⟩
      have nq := NatV.of_row W32_ge hqb.rd (Nat.le_refl _) HQD.out _ HQ1.out
      have nr := NatV.of_row W32_ge hrb.rd (Nat.le_refl _) HRD.out _ HR1.out
      generalize Value.slice (some ⟨br, 0, none⟩) (trimN ro).length ro.length = vr at *
      generalize Value.slice (some ⟨bq, 0, none⟩) (trimN qo).length qo.length = vq at *
      go_wp2_with fail
      refine (unshift_any vr ((m % n) * 2 ^ s) s wr nr hlm hs).mono ?_
      rintro e w8 ⟨v8, rfl, hv8, hbl8⟩
      rw [Nat.mul_div_cancel _ (Nat.two_pow_pos s)] at hv8
      go_wp2
      go_ret2
      have hb36 := hbl.trans (hbl8.mono hbl.size)
      exact ⟨_, _, rfl, nq.below hbl8, hv8, hb03.trans (hb36.mono hb03.size)⟩
    | succ i =>
      obtain ⟨ro0, qo0, inv1, h0len, h0d, h0q, h0o⟩ := inv.fix
      have hbl := inv.below
      obtain ⟨rk, hrk, hck, hfk, inv2⟩ := inv1.atR (i + ds.length) (by omega)
      obtain ⟨r1, hr1, hc1, hf1, inv3⟩ := inv2.atR (i + ds.length - 1) (by omega)
      have gk : ro0[i + ds.length]? = some rk := by
        obtain ⟨ro, qo, _, _, _, _, ⟨⟨⟨rfl, rfl⟩, h2⟩, h3⟩, _⟩ := inv3.facts; exact h2
      have g1 : ro0[i + ds.length - 1]? = some r1 := by
        obtain ⟨ro, qo, _, _, _, _, ⟨⟨⟨rfl, rfl⟩, h2⟩, h3⟩, _⟩ := inv3.facts; exact h3
      have htz := top_zero W32_ge (ro := ro0) (ds := ds) (i := i) LD.out (by omega) (by rw [VD.out]; exact h0o.2)
      have hge : ∀ g, ((rk * W32 + r1) / top ≤ g ∨ W32 - 1 ≤ g) → val W32 (ro0.drop i) < (g + 1) * D := by
        intro g hg
        have := guess_ge W32_ge (ro := ro0) (ds := ds) (i := i) (g := g) h0d (by omega) HTA.out htp gk g1 htz (by rw [VD.out]; exact h0o.2) hg
        rwa [VD.out] at this
      have TW := two_words' r1 rk hr1 hrk
      obtain ⟨num, hnum⟩ : ∃ num, num = rk * 4294967296 + r1 := ⟨_, rfl⟩
      rw [← hnum] at TW
      have hnl : num < 18446744073709551616 := by omega
      obtain ⟨g, hg1, hg2, hg3⟩ := min_guess num top hnl htp
      have hgN : val W32 (ro0.drop i) < (g + 1) * D := hge g (by rw [hnum] at hg3; exact hg3)
      have HgN := Lib.hid hgN
      clear hg3 hgN
      have Hnum := Lib.hid hnum; have Hge := Lib.hid hge; have Htz := Lib.hid htz; have Gk := Lib.hid gk; have H0o := Lib.hid h0o; have H0d := Lib.hid h0d
      clear hnum hge htz gk g1 h0o inv inv2 inv3 hf1 h0d
      rw [show (((i + 1 : Nat) : Int) - 1) = (i : Int) from by omega]
      go_wp2
      go_quiet (fail)
      clear TW hck hc1
      have inv4 : Row2 w3 (wr.drewN nq) br bq R Q (fun ro qo => SubL W32 ro0 ds g i 0 0 0 ro ∧ qo = qo0) := (inv1.drewN nq).weaken (fun ro qo _ _ _ h => ⟨by rw [h.1]; exact SubL.start W32_ge ro0 ds g i, h.2⟩)
      have hblq : Below w3.heap.size w3 (wr.drewN nq) := inv4.below
      obtain ⟨wa, hwa⟩ : ∃ wa : World, wa = wr.drewN nq := ⟨_, rfl⟩
      rw [← hwa] at inv4 hblq
      rw [← hwa]
      clear hwa inv1 hbl hfk
      go_wp2
      go_loopw [111, 18, 17] (fun s111 s18 s17 wx => ∃ j cy bw : Nat, j ≤ ds.length ∧ cy < 4294967296 ∧ bw ≤ 1 ∧ s111 = .int .i64 j ∧ s18 = .int .u64 cy ∧ s17 = .int .u64 bw ∧ Row2 w3 wx br bq R Q (fun ro qo => SubL W32 ro0 ds g i j cy bw ro ∧ qo = qo0)) (fun s111 _ _ _ => ds.length - (intOf s111).toNat)
      case atStart => exact ⟨0, 0, 0, by omega, by omega, by omega, rfl, rfl, rfl, inv4⟩
      case round =>
        obtain ⟨j, cy, bw, hj, hcy, hbw, rfl, rfl, rfl, inv5⟩ := hrel
        clear inv4 hblq
        have hbl5 := inv5.below
        by_cases hlt : j < ds.length
        · obtain ⟨r, hr, hcr, hfr, inv6⟩ := inv5.atR (i + j) (by omega)
          obtain ⟨b9, o9, e9, hb9, hcx⟩ := rd j hlt
          simp only [Option.some.injEq, Addr.mk.injEq, and_true] at e9
          obtain ⟨rfl, rfl⟩ := e9
          rw [← hbl5.cell (p := ⟨bd, od + j, none⟩) hb9] at hcx
          have hx : ds[j] < 4294967296 := LD.out _ (List.getElem_mem _)
          obtain ⟨m1, m2⟩ := mul_bounds hg2 hx
          have stp := fun (ro : List Nat) (h : SubL W32 ro0 ds g i j cy bw ro) (h2 : ro[i + j]? = some r) => SubL.step W32_ge h hlt hg2 hx r h2
          obtain ⟨c', hc'⟩ : ∃ c', c' = cy + g * ds[j] := ⟨_, rfl⟩
          simp only [← hc'] at stp
          have STP := Lib.hid stp
          have hmul : (cy : Int) + (g : Int) * (ds[j] : Int) = (c' : Int) := by rw [hc', Int.natCast_add, Int.natCast_mul]
          have hcl : c' < 18446744073709551616 := by omega
          clear stp hc' inv5
          generalize ds[j] = x at *
          rcases sub3 (a := r) (b := c' % 4294967296) hbw with hcase | hcase | ⟨hcase, hcase1, hcase2⟩
          · go_wp2
            go_roundw
            case rel =>
              exact ⟨j + 1, c' / 4294967296, 0, by omega, by omega, by omega, by go_num, by go_num, by congr 1; omega, inv6.setR (i + j) (r - (c' % W32 + bw)) _ (by unfold W32; omega) (by unfold W32; omega) (fun ro qo _ _ _ hp => ⟨STP.out ro hp.1.1 hp.2 _ _ (.inl ⟨hcase, rfl, rfl⟩), hp.1.2⟩)⟩
            case measure => simp [intOf]; omega
          · have hw1 := u64_wrap_neg ((r : Int) - (c' : Int) % 4294967296) (by omega)
            go_wp2
            go_roundw
            case rel =>
              exact ⟨j + 1, c' / 4294967296, 1, by omega, by omega, by omega, by go_num, by go_num, by congr 1; omega, inv6.setR (i + j) (r + W32 - (c' % W32 + bw)) _ (by unfold W32; omega) (by unfold W32; omega) (fun ro qo _ _ _ hp => ⟨STP.out ro hp.1.1 hp.2 _ _ (.inr ⟨by unfold W32; omega, by unfold W32; omega, rfl⟩), hp.1.2⟩)⟩
            case measure => simp [intOf]; omega
          · have hw1 := u64_wrap_neg ((r : Int) - (c' : Int) % 4294967296 - (bw : Int)) (by omega)
            go_wp2
            go_roundw
            case rel =>
              exact ⟨j + 1, c' / 4294967296, 1, by omega, by omega, by omega, by go_num, by go_num, by congr 1; omega, inv6.setR (i + j) (r + W32 - (c' % W32 + bw)) _ (by unfold W32; omega) (by unfold W32; omega) (fun ro qo _ _ _ hp => ⟨STP.out ro hp.1.1 hp.2 _ _ (.inr ⟨by unfold W32; omega, by unfold W32; omega, rfl⟩), hp.1.2⟩)⟩
            case measure => simp [intOf]; omega
        · obtain rfl : j = ds.length := by omega
          obtain ⟨r, hr, hcr, hfr, inv6⟩ := inv5.atR (i + ds.length) (by omega)
          obtain ⟨T, eL, ν, hT, hTl, hTm, hCS, hcs⟩ := cor_start r cy bw hr hcy hbw
          have HCS := Lib.hid hCS; have HTM := Lib.hid hTm
          have fin := fun (ro : List Nat) (h : SubL W32 ro0 ds g i ds.length cy bw ro) (h2 : ro[i + ds.length]? = some r) => SubL.fin W32_ge h D VD.out Htz.out HgN.out r h2 eL ν hcs
          have FIN := Lib.hid fin
          clear hTm hCS hcs fin inv5
          go_wp2
          have inv7 := inv6.setR (q := fun ro qo => CorP W32 ro0 D ds.length i g ν eL ro ∧ qo = qo0) (i + ds.length) eL ((T : Int) % 4294967296) (by have := HTM.out; omega) (by have := HCS.out.2; unfold W32; omega) (fun ro qo _ _ _ hp => ⟨FIN.out ro hp.1.1 hp.2, hp.1.2⟩)
          clear inv6 hT hcr hfr
          go_loopw [22, 16] (fun s22 s16 wy => ∃ T g eL ν : Nat, T < 18446744073709551616 ∧ g < 4294967296 ∧ s22 = .int .u64 T ∧ s16 = .int .u64 g ∧ CorS T eL ν ∧ Row2 w3 wy br bq R Q (fun ro qo => CorP W32 ro0 D ds.length i g ν eL ro ∧ qo = qo0)) (fun _ s16 _ => (intOf s16).toNat)
          case atStart => exact ⟨T, g, eL, ν, hTl, hg2, rfl, rfl, HCS.out, inv7⟩
          case round =>
            clear inv7 HCS HTM FIN
            obtain ⟨T, g, eL, ν, hTl, hgl, rfl, rfl, hCS, inv8⟩ := hrel
            have HCS := Lib.hid hCS
            have hν : ν = 0 ∨ ν = 1 := by rcases hCS.1 with ⟨h, _⟩ | ⟨h, _⟩ <;> omega
            have hT9 : (ν = 0 → T < 9223372036854775808) ∧ (ν = 1 → 9223372036854775808 ≤ T) := by
              obtain ⟨h1, h2⟩ := hCS
              rcases h1 with ⟨a, b⟩ | ⟨a, b⟩ <;> constructor <;> intro h <;> omega
            clear hCS
            rcases hν with rfl | rfl
            · -- the guess stands
              have hT0 := hT9.1 rfl
              have hnz : (((T : Int) / 9223372036854775808) != 0) = false := by
                have : (T : Int) / 9223372036854775808 = 0 := by omega
                rw [this]; rfl
              obtain ⟨hcq, hfq⟩ := inv8.atQ i (by omega)
              obtain ⟨vq, hcq⟩ := hcq
              clear hT9
              go_wp2
              go_roundw
              case rel =>
                exact ⟨i, by omega, rfl, inv8.setQ i g _ (by omega) (by unfold W32; omega) (fun ro qo h1 h2 hp => by
                  obtain ⟨hp1, rfl⟩ := hp
                  exact CorP.exit W32_ge H0o.out hp1 (by omega) (by omega) (by omega))⟩
              case measure => simp [intOf]
            · -- the guess was too great
              have hT1 := hT9.2 rfl
              have hnz : (((T : Int) / 9223372036854775808) != 0) = true := by
                have : (T : Int) / 9223372036854775808 = 1 := by omega
                rw [this]; rfl
              obtain ⟨ro1, qo1, inv9, h1len, h1d, h1q, h1c, h1e⟩ := inv8.fix
              have hgp := CorP.pos W32_ge h1c h1d
              have inv10 := inv9.weaken (q := fun ro qo => AddL W32 ro1 ds i 0 0 ro ∧ qo = qo0) (fun ro qo _ _ _ h => ⟨by rw [h.1]; exact AddL.start ro1 ds i, by rw [h.2, h1e]⟩)
              have H1c := Lib.hid h1c; have H1d := Lib.hid h1d
              clear hT9 inv8 inv9 h1c h1d h1e
              go_wp2
              go_loopw [168, 23] (fun s168 s23 wz => ∃ j sm : Nat, j ≤ ds.length ∧ sm ≤ 1 ∧ s168 = .int .i64 j ∧ s23 = .int .u64 sm ∧ Row2 w3 wz br bq R Q (fun ro qo => AddL W32 ro1 ds i j sm ro ∧ qo = qo0)) (fun s168 _ _ => ds.length - (intOf s168).toNat)
              case atStart => exact ⟨0, 0, by omega, by omega, rfl, rfl, inv10⟩
              case round =>
                obtain ⟨j, sm, hj, hsm, rfl, rfl, inv11⟩ := hrel
                clear inv10
                have hbl6 := inv11.below
                by_cases hlt : j < ds.length
                · obtain ⟨r, hr, hcr, hfr, inv12⟩ := inv11.atR (i + j) (by omega)
                  obtain ⟨b9, o9, e9, hb9, hcx⟩ := rd j hlt
                  simp only [Option.some.injEq, Addr.mk.injEq, and_true] at e9
                  obtain ⟨rfl, rfl⟩ := e9
                  rw [← hbl6.cell (p := ⟨bd, od + j, none⟩) hb9] at hcx
                  have hx : ds[j] < 4294967296 := LD.out _ (List.getElem_mem _)
                  have stp := fun (ro : List Nat) (h : AddL W32 ro1 ds i j sm ro) (h2 : ro[i + j]? = some r) => AddL.step W32_ge h hlt hx r h2 hr
                  have STP := Lib.hid stp
                  clear stp inv11
                  generalize ds[j] = x at *
                  go_wp2
                  go_roundw
                  case rel =>
                    exact ⟨j + 1, (sm + (r + x)) / 4294967296, by omega, by omega, by go_num, by congr 1, inv12.setR (i + j) ((sm + (r + x)) % W32) _ (by unfold W32; omega) (by unfold W32; omega) (fun ro qo _ _ _ hp => ⟨STP.out ro hp.1.1 hp.2, hp.1.2⟩)⟩
                  case measure => simp [intOf]; omega
                · obtain rfl : j = ds.length := by omega
                  obtain ⟨r, hr, hcr, hfr, inv12⟩ := inv11.atR (i + ds.length) (by omega)
                  obtain ⟨T2, hT2, hT2l, hT2m, hCS2⟩ := cor_next T eL sm HCS.out hsm
                  have fin := fun (ro : List Nat) (h : AddL W32 ro1 ds i ds.length sm ro) => AddL.fin W32_ge H1c.out H1d.out VD.out h
                  have FIN := Lib.hid fin; have HCS2 := Lib.hid hCS2; have HT2M := Lib.hid hT2m
                  clear fin hCS2 hT2m inv12
                  go_wp2
                  go_roundw
                  case rel =>
                    refine ⟨T2, g - 1, (eL + sm) % 4294967296, 1 - (eL + sm) / 4294967296, hT2l, by omega, rfl, by congr 1; omega, HCS2.out, ?_⟩
                    exact inv11.setR (i + ds.length) ((eL + sm) % W32) _ (by have := HT2M.out; unfold W32; omega) (by unfold W32; omega) (fun ro qo _ _ _ hp => ⟨(FIN.out ro hp.1).2, hp.2⟩)
                  case measure => simp [intOf]; omega

theorem divide_any (va vb : Value) (m n : Nat) (w : World) (ha : NatV w .u32 W32 va m) (hb : NatV w .u32 W32 vb n) (hma : (digs W32 m).length ≤ 10000) (hmb : (digs W32 n).length ≤ 10000) (hn : 0 < n) :
    Calls Tryd.prog 39 #[va, vb] w fun e w' => ∃ v1 v2, e = .returned (.tuple #[v1, v2]) ∧ NatV w' .u32 W32 v1 (m / n) ∧ NatV w' .u32 W32 v2 (m % n) ∧ Below w.heap.size w w' := by
  rcases Nat.lt_or_ge m n with h | h
  · exact divide_less va vb m n w ha hb hma hmb h
  · have h0 : (digs W32 n).length ≠ 0 := fun e => by rw [digs_eq_nil W32 W32_ge] at e; omega
    by_cases h1 : (digs W32 n).length = 1
    · exact divide_one va vb m n w ha hb hma h1 h
    · exact divide_big va vb m n w ha hb hma (by omega) h

end Go.Proofs.YtpjjbdpkhmeldaaDoor
