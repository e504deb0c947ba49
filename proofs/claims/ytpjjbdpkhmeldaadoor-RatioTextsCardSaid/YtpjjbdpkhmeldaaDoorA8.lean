/- contracts of ratio's small, (fraction).ratio -/
import Derived.Test.YtpjjbdpkhmeldaaDoorA7
namespace Go.Proofs.YtpjjbdpkhmeldaaDoor
open Go.RowKit

theorem cmpN_le {m n : Nat} (h : m ≤ n) : cmpN m n ≤ 0 := by
  unfold cmpN
  split
  · omega
  · split <;> omega

def P62 : Nat := 4611686018427387904

set_option maxHeartbeats 1000000 in
theorem small_no (va : Value) (n : Nat) (w : World) (ha : NatV w .u32 W32 va n) (hl : (digs W32 n).length ≤ 10000) (h : P62 < n) :
    Calls Tryd.prog 40 #[va] w fun e w' => e = .returned (.tuple #[.int .i64 0, .bool false]) ∧ Below w.heap.size w w' := by
  go_enter Tryd.func40, Tryd.ntmps40
  go_wp2_with fail
  refine (word_any 4611686018427387904 w (by omega)).mono ?_
  rintro e w1 ⟨v1, rfl, n1, b1⟩
  have ha1 := ha.below b1
  go_wp2_with fail
  have hc := cmp_any va v1 n 4611686018427387904 w1 ha1 n1 (by omega) (by refine Nat.le_trans (digs_length_le W32 W32_ge _ 2 (by unfold W32; decide)) (by omega))
  rw [cmpN_gt (by unfold P62 at h; exact h)] at hc
  refine hc.mono ?_
  rintro e w2 ⟨rfl, b2⟩
  clear hc
  go_wp2
  go_ret2
  exact ⟨rfl, b1.trans (b2.mono b1.size)⟩

theorem shl_or (x y : Nat) (hx : x < 4294967296) (hy : y < 4294967296) : bits BinOp.or .u64 (x : Int) ((y : Int) * 4294967296) = ((x + y * 4294967296 : Nat) : Int) := two_words x y hx hy

set_option maxHeartbeats 1000000 in
theorem small_yes (va : Value) (n : Nat) (w : World) (ha : NatV w .u32 W32 va n) (h : n ≤ P62) :
    Calls Tryd.prog 40 #[va] w fun e w' => e = .returned (.tuple #[.int .i64 (n : Int), .bool true]) ∧ Below w.heap.size w w' := by
  have hl : (digs W32 n).length ≤ 2 := digs_length_le W32 W32_ge _ 2 (by unfold W32; unfold P62 at h; omega)
  have hcle := cmpN_le h
  have hcm := cmp_any va
  go_enter Tryd.func40, Tryd.ntmps40
  go_wp2_with fail
  refine (word_any 4611686018427387904 w (by omega)).mono ?_
  rintro e w1 ⟨v1, rfl, n1, b1⟩
  have ha1 := ha.below b1
  go_wp2_with fail
  have hc := cmp_any va v1 n 4611686018427387904 w1 ha1 n1 (by omega) (by refine Nat.le_trans (digs_length_le W32 W32_ge _ 2 (by unfold W32; decide)) (by omega))
  obtain ⟨c, hce⟩ : ∃ c, c = cmpN n 4611686018427387904 := ⟨_, rfl⟩
  rw [← hce] at hc
  have hc0 : c ≤ 0 := by rw [hce]; exact hcle
  clear hce hcle hcm
  refine hc.mono ?_
  rintro e w2 ⟨rfl, b2⟩
  clear hc
  have ha2 := ha1.below b2
  have vn := val_digs W32 W32_ge n
  have ln := digs_lt32 n
  obtain ⟨aa, ca, rfl, hca, ra⟩ := ha2
  generalize digs W32 n = xs at *
  have VN := Lib.hid vn; have LN := Lib.hid ln; have HN := Lib.hid h
  have hbb := b1.trans (b2.mono b1.size)
  clear vn ln h ha ha1 b1 b2 n1
  go_wp2
  go_loop [13, 4] (fun s13 s4 => ∃ k t : Nat, k ≤ xs.length ∧ s13 = .int .i64 k ∧ s4 = .int .u64 t ∧ t = val W32 (xs.take k)) (fun s13 _ => xs.length - (intOf s13).toNat)
  case atStart => exact ⟨0, 0, by omega, rfl, rfl, by simp⟩
  case round =>
    obtain ⟨k, t, hk, rfl, rfl, ht⟩ := hrel
    have HT := Lib.hid ht
    have tlt : t < W32 ^ k := by
      have := val_lt W32 W32_ge (xs.take k) (fun d hd => LN.out d (List.mem_of_mem_take hd))
      rw [List.length_take, Nat.min_eq_left hk] at this
      rw [ht]; exact this
    clear ht
    by_cases hlt : k < xs.length
    · obtain ⟨b, off, rfl, hb, hc⟩ := ra k hlt
      have hx : xs[k] < 4294967296 := LN.out _ (List.getElem_mem _)
      have vts := val_take_succ W32 xs k hlt
      rw [← HT.out] at vts
      have VTS := Lib.hid vts; clear vts
      obtain ⟨x, hx'⟩ : ∃ x, x = xs[k] := ⟨_, rfl⟩
      rw [← hx'] at hc hx VTS
      clear hx'
      have hk1 : k ≤ 1 := by omega
      obtain ⟨t2, ht2, hor⟩ : ∃ t2 : Nat, t2 = t + x * W32 ^ k ∧ bits BinOp.or .u64 (t : Int) (IntKind.u64.wrap ((x : Int) * 2 ^ (32 * k))) = (t2 : Int) := by
        refine ⟨_, rfl, ?_⟩
        rcases (show k = 0 ∨ k = 1 from by omega) with rfl | rfl
        · have h0 : t = 0 := by rw [Nat.pow_zero] at tlt; omega
          subst h0
          have := bits_or_u64 0 x (by omega) (by omega)
          simp only [Nat.mul_zero, Int.pow_zero, Int.mul_one, Nat.pow_zero, Nat.mul_one]
          rw [u64_id x (by omega)]
          simpa using this
        · have ht32 : t < 4294967296 := by rw [Nat.pow_one] at tlt; exact tlt
          have h1 := two_words t x ht32 hx
          have h2 := u64_id (x * 4294967296) (by omega)
          rw [Int.natCast_mul] at h2
          rw [show ((2 : Int) ^ (32 * 1)) = ((4294967296 : Nat) : Int) from by decide, h2, show W32 ^ 1 = 4294967296 from by decide]
          exact h1
      have HT2 := Lib.hid ht2
      clear tlt ht2
      go_wp2
      go_round
      case rel => exact ⟨k + 1, t2, by omega, by go_num, rfl, by rw [HT2.out, VTS.out]⟩
      case measure => simp [intOf]; omega
    · obtain rfl : k = xs.length := by omega
      have htn := HT.out
      rw [List.take_length, VN.out] at htn
      subst htn
      have hle := HN.out
      unfold P62 at hle
      clear tlt
      go_wp2
      go_ret2
      exact ⟨rfl, hbb⟩

/-- what a fraction of any size comes to -/
def ratioS (neg : Bool) (m n : Nat) : Int × Int × Int :=
  if m / Nat.gcd m n ≤ P62 ∧ n / Nat.gcd m n ≤ P62 then ((if neg then -((m / Nat.gcd m n : Nat) : Int) else ((m / Nat.gcd m n : Nat) : Int)), ((n / Nat.gcd m n : Nat) : Int), 0) else (0, 0, 2)

def RatE (x : Int × Int × Int) : Ending := .returned (.tuple #[.agg #[.int .i64 x.1, .int .i64 x.2.1], .int .i64 x.2.2])

theorem small_any (va : Value) (n : Nat) (w : World) (ha : NatV w .u32 W32 va n) (hl : (digs W32 n).length ≤ 10000) :
    Calls Tryd.prog 40 #[va] w fun e w' => (∃ b : Bool, e = .returned (.tuple #[.int .i64 (if n ≤ P62 then (n : Int) else 0), .bool b]) ∧ b = decide (n ≤ P62)) ∧ Below w.heap.size w w' := by
  by_cases h : n ≤ P62
  · refine (small_yes va n w ha h).mono ?_
    rintro e w' ⟨rfl, hb⟩
    exact ⟨⟨true, by rw [if_pos h], by simp [h]⟩, hb⟩
  · refine (small_no va n w ha hl (by omega)).mono ?_
    rintro e w' ⟨rfl, hb⟩
    exact ⟨⟨false, by rw [if_neg h], by simp [h]⟩, hb⟩

theorem div_len (m g : Nat) (h : (digs W32 m).length ≤ 10000) : (digs W32 (m / g)).length ≤ 10000 :=
  Nat.le_trans (digs_length_mono W32 W32_ge _ _ (Nat.div_le_self _ _)) h

/-- a box of a fraction, and one for a ratio -/
def RtS (w : World) (neg : Bool) (v1 v2 : Value) (w' : World) : Prop := Below w.heap.size w w' ∧ Box w' w.heap.size 46 [.bool neg, v1, v2] ∧ Box w' (w.heap.size + 1) 23 [.int .i64 0, .int .i64 0]
theorem RtS.step {w : World} {neg : Bool} {v1 v2 : Value} {w1 w2 : World} (hb : Below w1.heap.size w1 w2) (h : RtS w neg v1 v2 w1) : RtS w neg v1 v2 w2 := by
  obtain ⟨h1, h2, h3⟩ := h
  exact ⟨h1.trans (hb.mono h1.size), h2.below hb, h3.below hb⟩
theorem RtS.cells {w : World} {neg : Bool} {v1 v2 : Value} {w' : World} (h : RtS w neg v1 v2 w') :
    w'.cell? ⟨w.heap.size, 0, none⟩ = some (.bool neg) ∧ w'.cell? ⟨w.heap.size, 1, none⟩ = some v1 ∧ w'.cell? ⟨w.heap.size, 2, none⟩ = some v2 ∧
    w'.cell? ⟨w.heap.size + 1, 0, none⟩ = some (.int .i64 0) ∧ w'.cell? ⟨w.heap.size + 1, 1, none⟩ = some (.int .i64 0) ∧ w'.frozen? ⟨w.heap.size + 1, 0, none⟩ = false ∧ w'.frozen? ⟨w.heap.size + 1, 1, none⟩ = false :=
  ⟨h.2.1.cell 0 _ rfl, h.2.1.cell 1 _ rfl, h.2.1.cell 2 _ rfl, h.2.2.cell 0 _ rfl, h.2.2.cell 1 _ rfl, h.2.2.free 0, h.2.2.free 1⟩

set_option maxHeartbeats 2000000 in
theorem ratio_any (v : Value) (neg : Bool) (m n : Nat) (w : World) (h : FracV w v neg m n) (hm : (digs W32 m).length ≤ 10000) (hn : (digs W32 n).length ≤ 10000) (hn0 : 0 < n) :
    Calls Tryd.prog 22 #[v] w fun e w' => e = RatE (ratioS neg m n) ∧ Below w.heap.size w w' := by
  obtain ⟨v1, v2, rfl, n1, n2⟩ := h
  have hS0 : RtS w neg v1 v2 ((w.alloc (Obj.cells #[.bool neg, v1, v2] 46)).alloc (Obj.cells #[.int .i64 0, .int .i64 0] 23)) := by
    refine ⟨((Below.refl _ _).alloc (Nat.le_refl _) _).alloc (by simp) _, (Box.made w 46 _).alloc _, ?_⟩
    have := Box.made (w.alloc (Obj.cells #[.bool neg, v1, v2] 46)) 23 [.int .i64 0, .int .i64 0]
    simpa using this
  obtain ⟨a1, c1, e1⟩ := n1.shape
  obtain ⟨a2, c2, e2⟩ := n2.shape
  subst e1 e2
  obtain ⟨l1, hl1⟩ : ∃ l1, l1 = (digs W32 m).length := ⟨_, rfl⟩
  obtain ⟨l2, hl2⟩ : ∃ l2, l2 = (digs W32 n).length := ⟨_, rfl⟩
  rw [← hl1] at n1 hS0
  rw [← hl2] at n2 hS0
  rw [← hl1, ← hl2]
  clear hl1 hl2
  go_enter Tryd.func22, Tryd.ntmps22
  go_wp2_with fail
  obtain ⟨w0, hw0⟩ : ∃ w0, w0 = ((w.alloc (Obj.cells #[.bool neg, .slice a1 l1 c1, .slice a2 l2 c2] 46)).alloc (Obj.cells #[.int .i64 0, .int .i64 0] 23)) := ⟨_, rfl⟩
  rw [← hw0] at hS0
  have n1' := n1.below hS0.1
  have n2' := n2.below hS0.1
  clear n1 n2
  rw [← hw0]
  clear hw0
  refine (divisor_any _ _ m n w0 n1' n2' hm hn).mono ?_
  rintro e w1 ⟨vg, rfl, ng, b1⟩
  have hS1 := hS0.step b1
  obtain ⟨k1, k2, k3, k4, k5, k6, k7⟩ := hS1.cells
  have m1 := n1'.below b1
  have m2 := n2'.below b1
  clear hS0 n1' n2' b1
  have hg0 : 0 < Nat.gcd m n := Nat.gcd_pos_of_pos_right m hn0
  have hgl := gcd_len m n hm hn
  obtain ⟨g, hg⟩ : ∃ g, g = Nat.gcd m n := ⟨_, rfl⟩
  rw [← hg] at hg0 hgl ng
  have HG := Lib.hid hg
  clear hg
  obtain ⟨ag, cg, eg⟩ := ng.shape
  obtain ⟨lg, hlg⟩ : ∃ l, l = (digs W32 g).length := ⟨_, rfl⟩
  rw [← hlg] at eg
  subst eg
  have HLG := Lib.hid hlg; clear hlg
  go_wp2_with fail
  refine (divide_any _ _ m g w1 m1 ng hm hgl hg0).mono ?_
  rintro e w2 ⟨q1, r1, rfl, nq1, nr1, b2⟩
  have hS2 := hS1.step b2
  have m2' := m2.below b2
  have ng' := ng.below b2
  clear k1 k2 k3 k4 k5 k6 k7 m1 m2 ng b2 hS1 nr1
  obtain ⟨k1, k2, k3, k4, k5, k6, k7⟩ := hS2.cells
  have ml := div_len m g hm
  have nl := div_len n g hn
  obtain ⟨mq, hmq⟩ : ∃ q, q = m / g := ⟨_, rfl⟩
  obtain ⟨nq, hnq⟩ : ∃ q, q = n / g := ⟨_, rfl⟩
  rw [← hmq] at ml nq1
  rw [← hnq] at nl
  have HMQ := Lib.hid hmq
  clear hmq
  go_wp2_with fail
  refine (divide_any _ _ n g w2 m2' ng' hn hgl hg0).mono ?_
  rintro e w3 ⟨q2, r2, rfl, nq2, nr2, b3⟩
  rw [← hnq] at nq2
  have HNQ := Lib.hid hnq
  clear hnq
  have hS3 := hS2.step b3
  have nq1' := nq1.below b3
  clear k1 k2 k3 k4 k5 k6 k7 m2' ng' b3 hS2 nr2 nq1
  obtain ⟨k1, k2, k3, k4, k5, k6, k7⟩ := hS3.cells
  go_wp2_with fail
  refine (small_any _ mq w3 nq1' ml).mono ?_
  rintro e w4 ⟨⟨s1, rfl, hs1⟩, b4⟩
  have hS4 := hS3.step b4
  have nq2' := nq2.below b4
  clear k1 k2 k3 k4 k5 k6 k7 b4 hS3 nq1' nq2
  obtain ⟨k1, k2, k3, k4, k5, k6, k7⟩ := hS4.cells
  have HS1 := Lib.hid hs1
  clear hs1
  obtain ⟨x1, hx1⟩ : ∃ x : Int, x = (if mq ≤ P62 then (mq : Int) else 0) := ⟨_, rfl⟩
  rw [← hx1]
  have HX1 := Lib.hid hx1
  have hx1b : 0 ≤ x1 ∧ x1 ≤ 4611686018427387904 := by
    rw [hx1]; split
    · rename_i h; unfold P62 at h; omega
    · omega
  clear hx1
  go_wp2_with fail
  refine (small_any _ nq w4 nq2' nl).mono ?_
  rintro e w5 ⟨⟨s2, rfl, hs2⟩, b5⟩
  have hS5 := hS4.step b5
  clear k1 k2 k3 k4 k5 k6 k7 b5 hS4 nq2'
  obtain ⟨k1, k2, k3, k4, k5, k6, k7⟩ := hS5.cells
  have HS2 := Lib.hid hs2
  clear hs2
  obtain ⟨x2, hx2⟩ : ∃ x : Int, x = (if nq ≤ P62 then (nq : Int) else 0) := ⟨_, rfl⟩
  rw [← hx2]
  have HX2 := Lib.hid hx2
  clear hx2
  have hbl := hS5.1
  rcases Bool.eq_false_or_eq_true s1 with rfl | rfl
  · rcases Bool.eq_false_or_eq_true s2 with rfl | rfl
    · cases neg
      · go_wp2
        refine bodyPost_ret (v := .tuple #[.agg #[.int .i64 x1, .int .i64 x2], .int .i64 0]) (by simp [results, Tryd.results22, go_sem, k4, k5]) rfl ⟨?_, (hbl.setCell (by simp) _).setCell (by simp) _⟩
        have e1 := HS1.out; have e2 := HS2.out
        simp at e1 e2
        have f1 := HX1.out; have f2 := HX2.out
        rw [if_pos e1] at f1
        rw [if_pos e2] at f2
        have g1 := HMQ.out; have g2 := HNQ.out; have g3 := HG.out
        unfold ratioS RatE
        rw [← g3, ← g1, ← g2, if_pos ⟨e1, e2⟩, f1, f2]
        rfl
      · go_wp2
        refine bodyPost_ret (v := .tuple #[.agg #[.int .i64 (-x1), .int .i64 x2], .int .i64 0]) (by simp [results, Tryd.results22, go_sem, k4, k5]) rfl ⟨?_, (hbl.setCell (by simp) _).setCell (by simp) _⟩
        have e1 := HS1.out; have e2 := HS2.out
        simp at e1 e2
        have f1 := HX1.out; have f2 := HX2.out
        rw [if_pos e1] at f1
        rw [if_pos e2] at f2
        have g1 := HMQ.out; have g2 := HNQ.out; have g3 := HG.out
        unfold ratioS RatE
        rw [← g3, ← g1, ← g2, if_pos ⟨e1, e2⟩, f1, f2]
        rfl
    · go_wp2
      refine bodyPost_ret (v := .tuple #[.agg #[.int .i64 0, .int .i64 0], .int .i64 2]) (by simp [results, Tryd.results22, go_sem, k4, k5]) rfl ⟨?_, (hbl.setCell (by simp) _).setCell (by simp) _⟩
      have e2 := HS2.out
      simp at e2
      have g1 := HMQ.out; have g2 := HNQ.out; have g3 := HG.out
      unfold ratioS RatE
      rw [← g3, ← g1, ← g2, if_neg (by omega)]
  · go_wp2
    refine bodyPost_ret (v := .tuple #[.agg #[.int .i64 0, .int .i64 0], .int .i64 2]) (by simp [results, Tryd.results22, go_sem, k4, k5]) rfl ⟨?_, (hbl.setCell (by simp) _).setCell (by simp) _⟩
    have e1 := HS1.out
    simp at e1
    have g1 := HMQ.out; have g2 := HNQ.out; have g3 := HG.out
    unfold ratioS RatE
    rw [← g3, ← g1, ← g2, if_neg (by omega)]

end Go.Proofs.YtpjjbdpkhmeldaaDoor
