/- contracts of the reference's reduced, small, plus -/
import Derived.Test.YtpjjbdpkhmeldaaR5
namespace Go.Proofs.Ytpjjbdpkhmeldaa
open Go.RowKit

theorem R_quot (n : Int) (d : Nat) (hd1 : 1 ≤ d) (hd2 : d ≤ 4611686018427387904) (hn1 : -4611686018427387904 ≤ n) (hn2 : n ≤ 4611686018427387904) :
    R n d = (n.tdiv (Nat.gcd n.natAbs d : Nat), ((d / Nat.gcd n.natAbs d : Nat) : Int), 0) ∧ -4611686018427387904 ≤ n.tdiv (Nat.gcd n.natAbs d : Nat) ∧ n.tdiv (Nat.gcd n.natAbs d : Nat) ≤ 4611686018427387904 := by
  have h1 := Nat.div_le_self n.natAbs (Nat.gcd n.natAbs d)
  have h2 := Nat.div_le_self d (Nat.gcd n.natAbs d)
  have key : n.tdiv (Nat.gcd n.natAbs d : Nat) = if n < 0 then -((n.natAbs / Nat.gcd n.natAbs d : Nat) : Int) else ((n.natAbs / Nat.gcd n.natAbs d : Nat) : Int) := by
    split
    · rename_i h
      obtain ⟨k, rfl⟩ : ∃ k : Nat, n = -(k : Int) := ⟨n.natAbs, by omega⟩
      rw [Int.neg_tdiv]
      simp
    · rename_i h
      obtain ⟨k, rfl⟩ : ∃ k : Nat, n = (k : Int) := ⟨n.natAbs, by omega⟩
      simp
  rw [key]
  unfold R ratioS
  simp only [Int.natAbs_natCast]
  rw [if_pos ⟨by unfold P62; omega, by unfold P62; omega⟩]
  generalize n.natAbs / Nat.gcd n.natAbs d = x at *
  by_cases h : n < 0
  · rw [decide_eq_true h, if_pos h]
    exact ⟨rfl, by omega, by omega⟩
  · rw [decide_eq_false h, if_neg h]
    exact ⟨rfl, by omega, by omega⟩

set_option maxHeartbeats 1000000 in
theorem rreduced_any (n : Int) (d : Nat) (w : World) (hd1 : 1 ≤ d) (hd2 : d ≤ 4611686018427387904) (hn1 : -4611686018427387904 ≤ n) (hn2 : n ≤ 4611686018427387904) :
    Calls Try.prog 45 #[.int .i64 n, .int .i64 d] w fun e w' => e = RatE (R n d) ∧ Below w.heap.size w w' := by
  obtain ⟨hR, hb1, hb2⟩ := R_quot n d hd1 hd2 hn1 hn2
  rw [hR]
  have CG := Lib.hid (fun wx => rgcd_any n d wx (by omega) (by omega) (by omega))
  have hg0 : 0 < Nat.gcd n.natAbs d := Nat.gcd_pos_of_pos_right _ (by omega)
  have hle := Nat.div_le_self d (Nat.gcd n.natAbs d)
  obtain ⟨g, hg⟩ : ∃ g, g = Nat.gcd n.natAbs d := ⟨_, rfl⟩
  rw [← hg] at CG hb1 hb2 hg0 hle
  rw [← hg]
  obtain ⟨q, hq⟩ : ∃ q, n.tdiv (g : Int) = q := ⟨_, rfl⟩
  rw [hq] at hb1 hb2
  rw [hq]
  have hq2 : ((d : Int).tdiv (g : Int)) = ((d / g : Nat) : Int) := rfl
  have hq3 : ((d : Int) / (g : Int)) = ((d / g : Nat) : Int) := rfl
  obtain ⟨r, hr⟩ : ∃ r, r = d / g := ⟨_, rfl⟩
  rw [← hr] at hq2 hq3 hle
  rw [← hr]
  have hz : ((g : Int) == 0) = false := by simp; omega
  clear hg hr hR
  have hX := Box.made w 25 [.int .i64 0, .int .i64 0]
  have hbl : Below w.heap.size w (w.alloc (Obj.cells #[.int .i64 0, .int .i64 0] 25)) := (Below.refl _ _).alloc (Nat.le_refl _) _
  go_enter Try.func45, Try.ntmps45
  go_wp2_with (first
    | (go_at_call 48; (with_reducible refine (CG.out _).mono ?_); rintro e w1 ⟨rfl, hb1⟩))
  replace hX := hX.below hb1
  replace hbl := hbl.trans (hb1.mono hbl.size)
  have z0 := hX.cell 0 _ rfl
  have z1 := hX.cell 1 _ rfl
  have f0 := hX.free 0
  have f1 := hX.free 1
  clear hX hb1 CG
  go_region
  all_goals go_wp2
  all_goals refine bodyPost_ret (v := .tuple #[.agg #[.int .i64 q, .int .i64 r], .int .i64 0]) (by simp [results, Try.results45, go_sem, z0, z1]) rfl ⟨rfl, by first | exact ((hbl.drew).setCell (by simp) _).setCell (by simp) _ | exact ((hbl.setCell (by simp) _).setCell (by simp) _).drew⟩

def smallB (an ad bn bd : Int) : Bool := decide (ad ≤ 1073741824 ∧ bd ≤ 1073741824 ∧ an ≤ 1073741824 ∧ bn ≤ 1073741824 ∧ -1073741824 ≤ an ∧ -1073741824 ≤ bn)

set_option maxHeartbeats 2000000 in
theorem rsmall_any (an ad bn bd : Int) (b : Bool) (hb : smallB an ad bn bd = b) (w : World) :
    Calls Try.prog 44 #[.agg #[.int .i64 an, .int .i64 ad], .agg #[.int .i64 bn, .int .i64 bd]] w fun e w' => e = .returned (.bool b) ∧ Below w.heap.size w w' := by
  have hx := Box.made w 25 [.int .i64 an, .int .i64 ad]
  have hx2 := hx.alloc (Obj.cells #[.int .i64 bn, .int .i64 bd] 25)
  have hy := Box.made (w.alloc (Obj.cells #[.int .i64 an, .int .i64 ad] 25)) 25 [.int .i64 bn, .int .i64 bd]
  rw [alloc_size] at hy
  have hbl : Below w.heap.size w ((w.alloc (Obj.cells #[.int .i64 an, .int .i64 ad] 25)).alloc (Obj.cells #[.int .i64 bn, .int .i64 bd] 25)) := ((Below.refl _ _).alloc (Nat.le_refl _) _).alloc (by simp) _
  have k1 := hx2.cell 0 _ rfl
  have k2 := hx2.cell 1 _ rfl
  have k3 := hy.cell 0 _ rfl
  have k4 := hy.cell 1 _ rfl
  clear hx hx2 hy
  by_cases h0 : ad ≤ 1073741824
  · have t0 : decide (ad ≤ 1073741824) = true := decide_eq_true h0
    by_cases h1 : bd ≤ 1073741824
    · have t1 : decide (bd ≤ 1073741824) = true := decide_eq_true h1
      by_cases h2 : an ≤ 1073741824
      · have t2 : decide (an ≤ 1073741824) = true := decide_eq_true h2
        by_cases h3 : bn ≤ 1073741824
        · have t3 : decide (bn ≤ 1073741824) = true := decide_eq_true h3
          by_cases h4 : -1073741824 ≤ an
          · have t4 : decide (-1073741824 ≤ an) = true := decide_eq_true h4
            by_cases h5 : -1073741824 ≤ bn
            · have t5 : decide (-1073741824 ≤ bn) = true := decide_eq_true h5
              obtain rfl : b = true := by rw [← hb]; exact decide_eq_true ⟨h0, h1, h2, h3, h4, h5⟩
              clear h0 h1 h2 h3 h4 h5 hb
              go_enter Try.func44, Try.ntmps44
              go_wp2
              go_ret
              exact ⟨rfl, hbl⟩
            · have t5 : decide (-1073741824 ≤ bn) = false := decide_eq_false h5
              obtain rfl : b = false := by rw [← hb]; exact decide_eq_false (fun h => h5 (by first | exact h.1 | exact h.2.1 | exact h.2.2.1 | exact h.2.2.2.1 | exact h.2.2.2.2.1 | exact h.2.2.2.2.2))
              clear h0 h1 h2 h3 h4 h5 hb
              go_enter Try.func44, Try.ntmps44
              go_wp2
              go_ret
              exact ⟨rfl, hbl⟩
          · have t4 : decide (-1073741824 ≤ an) = false := decide_eq_false h4
            obtain rfl : b = false := by rw [← hb]; exact decide_eq_false (fun h => h4 (by first | exact h.1 | exact h.2.1 | exact h.2.2.1 | exact h.2.2.2.1 | exact h.2.2.2.2.1 | exact h.2.2.2.2.2))
            clear h0 h1 h2 h3 h4 hb
            go_enter Try.func44, Try.ntmps44
            go_wp2
            go_ret
            exact ⟨rfl, hbl⟩
        · have t3 : decide (bn ≤ 1073741824) = false := decide_eq_false h3
          obtain rfl : b = false := by rw [← hb]; exact decide_eq_false (fun h => h3 (by first | exact h.1 | exact h.2.1 | exact h.2.2.1 | exact h.2.2.2.1 | exact h.2.2.2.2.1 | exact h.2.2.2.2.2))
          clear h0 h1 h2 h3 hb
          go_enter Try.func44, Try.ntmps44
          go_wp2
          go_ret
          exact ⟨rfl, hbl⟩
      · have t2 : decide (an ≤ 1073741824) = false := decide_eq_false h2
        obtain rfl : b = false := by rw [← hb]; exact decide_eq_false (fun h => h2 (by first | exact h.1 | exact h.2.1 | exact h.2.2.1 | exact h.2.2.2.1 | exact h.2.2.2.2.1 | exact h.2.2.2.2.2))
        clear h0 h1 h2 hb
        go_enter Try.func44, Try.ntmps44
        go_wp2
        go_ret
        exact ⟨rfl, hbl⟩
    · have t1 : decide (bd ≤ 1073741824) = false := decide_eq_false h1
      obtain rfl : b = false := by rw [← hb]; exact decide_eq_false (fun h => h1 (by first | exact h.1 | exact h.2.1 | exact h.2.2.1 | exact h.2.2.2.1 | exact h.2.2.2.2.1 | exact h.2.2.2.2.2))
      clear h0 h1 hb
      go_enter Try.func44, Try.ntmps44
      go_wp2
      go_ret
      exact ⟨rfl, hbl⟩
  · have t0 : decide (ad ≤ 1073741824) = false := decide_eq_false h0
    obtain rfl : b = false := by rw [← hb]; exact decide_eq_false (fun h => h0 (by first | exact h.1 | exact h.2.1 | exact h.2.2.1 | exact h.2.2.2.1 | exact h.2.2.2.2.1 | exact h.2.2.2.2.2))
    clear h0 hb
    go_enter Try.func44, Try.ntmps44
    go_wp2
    go_ret
    exact ⟨rfl, hbl⟩

/-- two boxes of fractions, and a result -/
def PlS (w : World) (g1 g2 : Bool) (a1 a2 b1 b2 : Value) (w' : World) : Prop :=
  Below w.heap.size w w' ∧ Box w' w.heap.size 54 [.bool g1, a1, a2] ∧ Box w' (w.heap.size + 1) 54 [.bool g2, b1, b2] ∧ HasR w' (w.heap.size + 2) 54 3
section
variable {w : World} {g1 g2 : Bool} {a1 a2 b1 b2 : Value}
theorem PlS.step {w1 w2 : World} (hb : Below w1.heap.size w1 w2) (h : PlS w g1 g2 a1 a2 b1 b2 w1) : PlS w g1 g2 a1 a2 b1 b2 w2 := by
  obtain ⟨h1, h2, h3, h4⟩ := h
  exact ⟨h1.trans (hb.mono h1.size), h2.below hb, h3.below hb, h4.below hb⟩
theorem PlS.drew {w1 : World} (h : PlS w g1 g2 a1 a2 b1 b2 w1) : PlS w g1 g2 a1 a2 b1 b2 w1.drew := ⟨h.1.drew, h.2.1, h.2.2.1, h.2.2.2⟩
theorem PlS.st {w1 : World} (h : PlS w g1 g2 a1 a2 b1 b2 w1) (i : Nat) (v : Value) (hv : ∀ m, v ≠ .int .i64 m) : PlS w g1 g2 a1 a2 b1 b2 (w1.setCell ⟨w.heap.size + 1 + 1, i, none⟩ v) := by
  obtain ⟨h1, h2, h3, h4⟩ := h
  exact ⟨h1.setCell (by simp; omega) _, h2.other (by omega) _ _, h3.other (by omega) _ _, h4.set _ _ _ hv⟩
theorem PlS.all {w' : World} (h : PlS w g1 g2 a1 a2 b1 b2 w') :
    PlS w g1 g2 a1 a2 b1 b2 w' ∧ w'.cell? ⟨w.heap.size, 0, none⟩ = some (.bool g1) ∧ w'.cell? ⟨w.heap.size, 1, none⟩ = some a1 ∧ w'.cell? ⟨w.heap.size, 2, none⟩ = some a2 ∧
    w'.cell? ⟨w.heap.size + 1, 0, none⟩ = some (.bool g2) ∧ w'.cell? ⟨w.heap.size + 1, 1, none⟩ = some b1 ∧ w'.cell? ⟨w.heap.size + 1, 2, none⟩ = some b2 :=
  ⟨h, h.2.1.cell 0 _ rfl, h.2.1.cell 1 _ rfl, h.2.1.cell 2 _ rfl, h.2.2.1.cell 0 _ rfl, h.2.2.1.cell 1 _ rfl, h.2.2.1.cell 2 _ rfl⟩
theorem PlS.res {w' : World} (h : PlS w g1 g2 a1 a2 b1 b2 w') :
    w'.cell? ⟨w.heap.size + 1 + 1, 0, none⟩ = some (cellD w' ⟨w.heap.size + 2, 0, none⟩) ∧ w'.cell? ⟨w.heap.size + 1 + 1, 1, none⟩ = some (cellD w' ⟨w.heap.size + 2, 1, none⟩) ∧ w'.cell? ⟨w.heap.size + 1 + 1, 2, none⟩ = some (cellD w' ⟨w.heap.size + 2, 2, none⟩) ∧
    w'.frozen? ⟨w.heap.size + 1 + 1, 0, none⟩ = false ∧ w'.frozen? ⟨w.heap.size + 1 + 1, 1, none⟩ = false ∧ w'.frozen? ⟨w.heap.size + 1 + 1, 2, none⟩ = false :=
  ⟨h.2.2.2.cell 0 (by omega), h.2.2.2.cell 1 (by omega), h.2.2.2.cell 2 (by omega), h.2.2.2.free 0, h.2.2.2.free 1, h.2.2.2.free 2⟩
theorem PlS.fin {wz : World} (h : PlS w g1 g2 a1 a2 b1 b2 wz) (g : Bool) {ao lo co ap lp cp : _} {p n : Nat} (hp : NatV wz .i64 R15 (.slice ao lo co) p) (hn : NatV wz .i64 R15 (.slice ap lp cp) n) :
    FracR (((wz.setCell ⟨w.heap.size + 1 + 1, 0, none⟩ (.bool g)).setCell ⟨w.heap.size + 1 + 1, 1, none⟩ (.slice ao lo co)).setCell ⟨w.heap.size + 1 + 1, 2, none⟩ (.slice ap lp cp)) (.agg #[.bool g, .slice ao lo co, .slice ap lp cp]) g p n ∧
    Below w.heap.size w (((wz.setCell ⟨w.heap.size + 1 + 1, 0, none⟩ (.bool g)).setCell ⟨w.heap.size + 1 + 1, 1, none⟩ (.slice ao lo co)).setCell ⟨w.heap.size + 1 + 1, 2, none⟩ (.slice ap lp cp)) :=
  ⟨⟨_, _, rfl, h.2.2.2.nat hp _ _ _ (by simp) (by simp), h.2.2.2.nat hn _ _ _ (by simp) (by simp)⟩, ((h.1.setCell (by simp; omega) _).setCell (by simp; omega) _).setCell (by simp; omega) _⟩
theorem PlS.start (w : World) (g1 g2 : Bool) (a1 a2 b1 b2 : Value) : PlS w g1 g2 a1 a2 b1 b2 (((w.alloc (Obj.cells #[.bool g1, a1, a2] 54)).alloc (Obj.cells #[.bool g2, b1, b2] 54)).alloc (Obj.cells #[.bool false, .slice none 0 0, .slice none 0 0] 54)) := by
  have e1 := Box.made w 54 [.bool g1, a1, a2]
  have e2 := Box.made (w.alloc (Obj.cells #[.bool g1, a1, a2] 54)) 54 [.bool g2, b1, b2]
  have e3 := Box.made ((w.alloc (Obj.cells #[.bool g1, a1, a2] 54)).alloc (Obj.cells #[.bool g2, b1, b2] 54)) 54 [.bool false, .slice none 0 0, .slice none 0 0]
  rw [alloc_size] at e2
  rw [alloc_size, alloc_size] at e3
  exact ⟨(((Below.refl _ _).alloc (Nat.le_refl _) _).alloc (by simp) _).alloc (by simp; omega) _, (e1.alloc _).alloc _, e2.alloc _, HasR.box e3⟩
end

theorem plusS_lenR (g1 : Bool) (m1 n1 : Nat) (g2 : Bool) (m2 n2 : Nat) (K : Nat) (h1 : (digs R15 m1).length ≤ K) (h2 : (digs R15 n1).length ≤ K) (h3 : (digs R15 m2).length ≤ K) (h4 : (digs R15 n2).length ≤ K) :
    (digs R15 (plusS g1 m1 n1 g2 m2 n2).2.1).length ≤ 2 * K + 1 ∧ (digs R15 (plusS g1 m1 n1 g2 m2 n2).2.2).length ≤ 2 * K := by
  have a1 := digs_length_mul R15 R15_ge m1 n2
  have a2 := digs_length_mul R15 R15_ge m2 n1
  have a3 := digs_length_mul R15 R15_ge n1 n2
  have a4 := digs_length_add R15 R15_ge (m1 * n2) (m2 * n1)
  have a5 := digs_length_mono R15 R15_ge (m1 * n2 - m2 * n1) (m1 * n2) (Nat.sub_le _ _)
  have a6 := digs_length_mono R15 R15_ge (m2 * n1 - m1 * n2) (m2 * n1) (Nat.sub_le _ _)
  unfold plusS
  split
  · exact ⟨by simp only []; omega, by simp only []; omega⟩
  · split
    · exact ⟨by simp only []; omega, by simp only []; omega⟩
    · exact ⟨by simp only []; omega, by simp only []; omega⟩

set_option maxHeartbeats 4000000 in
theorem rplus_any (va vb : Value) (g1 g2 : Bool) (m1 n1 m2 n2 : Nat) (w : World) (ha : FracR w va g1 m1 n1) (hb : FracR w vb g2 m2 n2) (hm1 : (digs R15 m1).length ≤ 4000) (hn1 : (digs R15 n1).length ≤ 4000) (hm2 : (digs R15 m2).length ≤ 4000) (hn2 : (digs R15 n2).length ≤ 4000) (hp1 : 0 < n1) (hp2 : 0 < n2) :
    Calls Try.prog 41 #[va, vb] w fun e w' => ∃ v, e = .returned v ∧ FracR w' v (lowS (plusS g1 m1 n1 g2 m2 n2).1 (plusS g1 m1 n1 g2 m2 n2).2.1 (plusS g1 m1 n1 g2 m2 n2).2.2).1 (lowS (plusS g1 m1 n1 g2 m2 n2).1 (plusS g1 m1 n1 g2 m2 n2).2.1 (plusS g1 m1 n1 g2 m2 n2).2.2).2.1 (lowS (plusS g1 m1 n1 g2 m2 n2).1 (plusS g1 m1 n1 g2 m2 n2).2.1 (plusS g1 m1 n1 g2 m2 n2).2.2).2.2 ∧ Below w.heap.size w w' := by
  obtain ⟨pl1, pl2⟩ := plusS_lenR g1 m1 n1 g2 m2 n2 4000 hm1 hn1 hm2 hn2
  have hpd : 0 < (plusS g1 m1 n1 g2 m2 n2).2.2 := by rw [plusS_den]; exact Nat.mul_pos hp1 hp2
  have HPL : Hid (plusS g1 m1 n1 g2 m2 n2 = if g1 = g2 then (g1, m1 * n2 + m2 * n1, n1 * n2) else if m2 * n1 ≤ m1 * n2 then (g1, m1 * n2 - m2 * n1, n1 * n2) else (g2, m2 * n1 - m1 * n2, n1 * n2)) := Lib.hid rfl
  obtain ⟨p, hp⟩ : ∃ p, p = plusS g1 m1 n1 g2 m2 n2 := ⟨_, rfl⟩
  rw [← hp] at pl1 pl2 hpd HPL
  rw [← hp]
  clear hp
  obtain ⟨pg, pm, pn⟩ := p
  simp only [] at pl1 pl2 hpd
  simp only []
  have CL := Lib.hid (fun vx wx hx => rlowest_any vx pg pm pn wx hx (by omega) (by omega) hpd)
  obtain ⟨lo, hlo⟩ : ∃ l, l = lowS pg pm pn := ⟨_, rfl⟩
  rw [← hlo] at CL
  rw [← hlo]
  clear hlo
  obtain ⟨lg, lm, ln⟩ := lo
  simp only [] at CL
  simp only []
  obtain ⟨x1, x2, rfl, a1, a2⟩ := ha
  obtain ⟨y1, y2, rfl, b1, b2⟩ := hb
  have hS0 := PlS.start w g1 g2 x1 x2 y1 y2
  obtain ⟨p1, c1, e1⟩ := a1.shape
  obtain ⟨p2, c2, e2⟩ := a2.shape
  obtain ⟨p3, c3, e3⟩ := b1.shape
  obtain ⟨p4, c4, e4⟩ := b2.shape
  subst e1 e2 e3 e4
  obtain ⟨l1, hl1⟩ : ∃ l, l = (digs R15 m1).length := ⟨_, rfl⟩
  obtain ⟨l2, hl2⟩ : ∃ l, l = (digs R15 n1).length := ⟨_, rfl⟩
  obtain ⟨l3, hl3⟩ : ∃ l, l = (digs R15 m2).length := ⟨_, rfl⟩
  obtain ⟨l4, hl4⟩ : ∃ l, l = (digs R15 n2).length := ⟨_, rfl⟩
  rw [← hl1] at a1; rw [← hl2] at a2; rw [← hl3] at b1; rw [← hl4] at b2
  rw [← hl1, ← hl2, ← hl3, ← hl4] at hS0
  rw [← hl1, ← hl2, ← hl3, ← hl4]
  clear hl1 hl2 hl3 hl4
  go_enter Try.func41, Try.ntmps41
  go_wp2
  obtain ⟨w0, hw0⟩ : ∃ w0, w0 = (((w.alloc (Obj.cells #[.bool g1, .slice p1 l1 c1, .slice p2 l2 c2] 54)).alloc (Obj.cells #[.bool g2, .slice p3 l3 c3, .slice p4 l4 c4] 54)).alloc (Obj.cells #[.bool false, .slice none 0 0, .slice none 0 0] 54)) := ⟨_, rfl⟩
  rw [← hw0] at hS0
  rw [← hw0]
  clear hw0
  have hS1 := hS0.drew
  have C1 := Lib.hid (fun (wx : World) (h : PlS w g1 g2 (.slice p1 l1 c1) (.slice p2 l2 c2) (.slice p3 l3 c3) (.slice p4 l4 c4) wx) => rmul_any (.slice p1 l1 c1) (.slice p4 l4 c4) m1 n2 wx (a1.below h.1) (b2.below h.1) (by omega) (by omega))
  have C2 := Lib.hid (fun (wx : World) (h : PlS w g1 g2 (.slice p1 l1 c1) (.slice p2 l2 c2) (.slice p3 l3 c3) (.slice p4 l4 c4) wx) => rmul_any (.slice p3 l3 c3) (.slice p2 l2 c2) m2 n1 wx (b1.below h.1) (a2.below h.1) (by omega) (by omega))
  have C3 := Lib.hid (fun (wx : World) (h : PlS w g1 g2 (.slice p1 l1 c1) (.slice p2 l2 c2) (.slice p3 l3 c3) (.slice p4 l4 c4) wx) => rmul_any (.slice p2 l2 c2) (.slice p4 l4 c4) n1 n2 wx (a2.below h.1) (b2.below h.1) (by omega) (by omega))
  obtain ⟨_, hc0, hc1, hc2, hc3, hc4, hc5⟩ := hS0.all
  go_region_held3 (fun w' => PlS w g1 g2 (.slice p1 l1 c1) (.slice p2 l2 c2) (.slice p3 l3 c3) (.slice p4 l4 c4) w' ∧ w'.cell? ⟨w.heap.size, 0, none⟩ = some (.bool g1) ∧ w'.cell? ⟨w.heap.size, 1, none⟩ = some (.slice p1 l1 c1) ∧ w'.cell? ⟨w.heap.size, 2, none⟩ = some (.slice p2 l2 c2) ∧ w'.cell? ⟨w.heap.size + 1, 0, none⟩ = some (.bool g2) ∧ w'.cell? ⟨w.heap.size + 1, 1, none⟩ = some (.slice p3 l3 c3) ∧ w'.cell? ⟨w.heap.size + 1, 2, none⟩ = some (.slice p4 l4 c4)) (first | exact PlS.all (by assumption))
    (first
      | (go_at_call 47; (with_reducible refine (C1.out _ ?_).mono ?_); (first | assumption | skip); rintro e w1 ⟨v1, rfl, hv1, hb1⟩; have hS1 := PlS.step hb1 (by assumption))
      | (go_at_call 47; (with_reducible refine (C2.out _ ?_).mono ?_); (first | assumption | skip); rintro e w2 ⟨v2, rfl, hv2, hb2⟩; have hS1 := PlS.step hb2 (by assumption)))
  have hv1' := hv1.below hb2
  have hS2 : PlS w g1 g2 (.slice p1 l1 c1) (.slice p2 l2 c2) (.slice p3 l3 c3) (.slice p4 l4 c4) w2 := by assumption
  obtain ⟨wa, hwa⟩ : ∃ wa, wa = w2 := ⟨_, rfl⟩
  rw [← hwa] at hv1' hv2 hS2
  rw [← hwa]
  clear hS0 hS1 hc0 hc1 hc2 hc3 hc4 hc5 hv1 hb1 hb2 C1 C2 hwa
  obtain ⟨q1, d1, e1⟩ := hv1'.shape
  obtain ⟨q2, d2, e2⟩ := hv2.shape
  subst e1 e2
  obtain ⟨_, hc0, hc1, hc2, hc3, hc4, hc5⟩ := hS2.all
  go_wp2_with fail
  (with_reducible refine (C3.out _ hS2).mono ?_)
  clear hc0 hc1 hc2 hc3 hc4 hc5 C3
  rintro e w3 ⟨v3, rfl, hn3, hb3⟩
  obtain ⟨q3, d3, e3⟩ := hn3.shape
  subst e3
  have hS3 := hS2.step hb3
  have hu1 := hv1'.below hb3
  have hu2 := hv2.below hb3
  clear hS2 hv1' hv2 hb3
  have hL1 : (digs R15 (m1 * n2)).length ≤ 8000 := Nat.le_trans (digs_length_mul R15 R15_ge m1 n2) (by omega)
  have hL2 : (digs R15 (m2 * n1)).length ≤ 8000 := Nat.le_trans (digs_length_mul R15 R15_ge m2 n1) (by omega)
  obtain ⟨p, hp⟩ : ∃ p, p = m1 * n2 := ⟨_, rfl⟩
  obtain ⟨q, hq⟩ : ∃ q, q = m2 * n1 := ⟨_, rfl⟩
  obtain ⟨r, hr⟩ : ∃ r, r = n1 * n2 := ⟨_, rfl⟩
  rw [← hp] at hu1 hL1
  rw [← hq] at hu2 hL2
  rw [← hr] at hn3
  rw [← hp, ← hq, ← hr]
  rw [← hp, ← hq, ← hr] at HPL
  clear hp hq hr a1 a2 b1 b2 hm1 hn1 hm2 hn2 pl1 pl2 hp1 hp2 hpd
  obtain ⟨la, hla⟩ : ∃ l, l = (digs R15 p).length := ⟨_, rfl⟩
  obtain ⟨lb, hlb⟩ : ∃ l, l = (digs R15 q).length := ⟨_, rfl⟩
  obtain ⟨lc, hlc⟩ : ∃ l, l = (digs R15 r).length := ⟨_, rfl⟩
  rw [← hla] at hu1 hL1
  rw [← hlb] at hu2 hL2
  rw [← hlc] at hn3
  rw [← hla, ← hlb, ← hlc]
  have HLA := Lib.hid hla
  have HLB := Lib.hid hlb
  clear hla hlb hlc
  have hbd : Below w3.heap.size w3 w3.drew := (Below.refl _ _).drew
  obtain ⟨_, hc0, hc1, hc2, hc3, hc4, hc5⟩ := hS3.all
  by_cases hg : g1 = g2
  · subst hg
    have e1 := HPL.out
    rw [if_pos rfl] at e1
    simp only [Prod.mk.injEq] at e1
    obtain ⟨rfl, rfl, rfl⟩ := e1
    clear HPL
    go_wp2
    have hSd := hS3.drew
    have nd := hn3.below hbd
    have C4 := Lib.hid (radd_any _ _ p q w3.drew (hu1.below hbd) (hu2.below hbd) (by rw [← HLA.out]; omega) (by rw [← HLB.out]; omega))
    clear hn3 hu1 hu2 hbd
    go_region_held3 (fun w' => PlS w pg pg (.slice p1 l1 c1) (.slice p2 l2 c2) (.slice p3 l3 c3) (.slice p4 l4 c4) w' ∧ w'.cell? ⟨w.heap.size, 0, none⟩ = some (.bool pg) ∧ w'.cell? ⟨w.heap.size, 1, none⟩ = some (.slice p1 l1 c1) ∧ w'.cell? ⟨w.heap.size, 2, none⟩ = some (.slice p2 l2 c2) ∧ w'.cell? ⟨w.heap.size + 1, 0, none⟩ = some (.bool pg) ∧ w'.cell? ⟨w.heap.size + 1, 1, none⟩ = some (.slice p3 l3 c3) ∧ w'.cell? ⟨w.heap.size + 1, 2, none⟩ = some (.slice p4 l4 c4)) (first | exact PlS.all (by assumption) | exact PlS.all ((((by assumption : PlS w pg pg (.slice p1 l1 c1) (.slice p2 l2 c2) (.slice p3 l3 c3) (.slice p4 l4 c4) _).st _ _ (by simp)).st _ _ (by simp)).st _ _ (by simp)))
      (first
        | (go_at_call 60; (with_reducible refine C4.out.mono ?_); rintro e w5 ⟨v5, rfl, hv5, hb5⟩; have hS5 := PlS.step hb5 hSd; have nd5 := nd.below hb5; obtain ⟨q5, d5, e5⟩ := hv5.shape; subst e5)
        | (go_at_call 59; (with_reducible refine (CL.out _ _ (FracR.of_pair hv5 nd5)).mono ?_); rintro e w6 ⟨v6, rfl, hf6, hb6⟩; have hS6 := PlS.step hb6 hS5; obtain ⟨z1, z2, e6, nz1, nz2⟩ := hf6; obtain ⟨q6, d6, e7⟩ := nz1.shape; obtain ⟨q7, d7, e8⟩ := nz2.shape; subst e7 e8 e6; obtain ⟨r0, r1, r2, f0, f1, f2⟩ := hS6.res))
    obtain ⟨r0, r1, r2, f0, f1, f2⟩ := hS6.res
    have FIN := Lib.hid (hS6.fin lg nz1 nz2)
    clear hc0 hc1 hc2 hc3 hc4 hc5 hv5 nd5 nz1 nz2 hS5 hS6
    go_wp2
    obtain ⟨f5, f6⟩ := FIN.out
    refine bodyPost_ret (v := .agg #[.bool lg, .slice q6 (digs R15 lm).length d6, .slice q7 (digs R15 ln).length d7]) (by simp [results, Try.results41, go_sem, r0, r1, r2]) rfl ⟨_, rfl, f5, f6⟩
  · have hgg : (g1 == g2) = false := by simpa using hg
    have hcmp := rcmp_any (.slice q1 la d1) (.slice q2 lb d2) p q w3 hu1 hu2 (by rw [← HLA.out]; omega) (by rw [← HLB.out]; omega)
    by_cases hqp : q ≤ p
    · have e1 := HPL.out
      rw [if_neg hg, if_pos hqp] at e1
      simp only [Prod.mk.injEq] at e1
      obtain ⟨rfl, rfl, rfl⟩ := e1
      have hc0' : 0 ≤ cmpN p q := by unfold cmpN; rw [if_neg (by omega)]; split <;> omega
      obtain ⟨c, hc⟩ : ∃ c, c = cmpN p q := ⟨_, rfl⟩
      rw [← hc] at hcmp hc0'
      clear hc HPL
      go_wp2_with fail
      refine hcmp.mono ?_
      clear hc0 hc1 hc2 hc3 hc4 hc5 hcmp
      rintro e w4 ⟨rfl, hb4⟩
      replace hS3 := hS3.step hb4
      replace hn3 := hn3.below hb4
      replace hu1 := hu1.below hb4
      replace hu2 := hu2.below hb4
      clear hb4 hbd
      have hbd : Below w4.heap.size w4 w4.drew := (Below.refl _ _).drew
      obtain ⟨_, hc0, hc1, hc2, hc3, hc4, hc5⟩ := hS3.all
      go_wp2
      have hSd := hS3.drew
      have nd := hn3.below hbd
      have C4 := Lib.hid (rsub_any _ _ p q w4.drew (hu1.below hbd) (hu2.below hbd) (by rw [← HLA.out]; omega) hqp)
      clear hn3 hu1 hu2 hbd
      go_region_held3 (fun w' => PlS w pg g2 (.slice p1 l1 c1) (.slice p2 l2 c2) (.slice p3 l3 c3) (.slice p4 l4 c4) w' ∧ w'.cell? ⟨w.heap.size, 0, none⟩ = some (.bool pg) ∧ w'.cell? ⟨w.heap.size, 1, none⟩ = some (.slice p1 l1 c1) ∧ w'.cell? ⟨w.heap.size, 2, none⟩ = some (.slice p2 l2 c2) ∧ w'.cell? ⟨w.heap.size + 1, 0, none⟩ = some (.bool g2) ∧ w'.cell? ⟨w.heap.size + 1, 1, none⟩ = some (.slice p3 l3 c3) ∧ w'.cell? ⟨w.heap.size + 1, 2, none⟩ = some (.slice p4 l4 c4)) (first | exact PlS.all (by assumption) | exact PlS.all ((((by assumption : PlS w pg g2 (.slice p1 l1 c1) (.slice p2 l2 c2) (.slice p3 l3 c3) (.slice p4 l4 c4) _).st _ _ (by simp)).st _ _ (by simp)).st _ _ (by simp)))
        (first
          | (go_at_call 62; (with_reducible refine C4.out.mono ?_); rintro e w5 ⟨v5, rfl, hv5, hb5⟩; have hS5 := PlS.step hb5 hSd; have nd5 := nd.below hb5; obtain ⟨q5, d5, e5⟩ := hv5.shape; subst e5)
          | (go_at_call 59; (with_reducible refine (CL.out _ _ (FracR.of_pair hv5 nd5)).mono ?_); rintro e w6 ⟨v6, rfl, hf6, hb6⟩; have hS6 := PlS.step hb6 hS5; obtain ⟨z1, z2, e6, nz1, nz2⟩ := hf6; obtain ⟨q6, d6, e7⟩ := nz1.shape; obtain ⟨q7, d7, e8⟩ := nz2.shape; subst e7 e8 e6; obtain ⟨r0, r1, r2, f0, f1, f2⟩ := hS6.res))
      obtain ⟨r0, r1, r2, f0, f1, f2⟩ := hS6.res
      have FIN := Lib.hid (hS6.fin lg nz1 nz2)
      clear hc0 hc1 hc2 hc3 hc4 hc5 hv5 nd5 nz1 nz2 hS5 hS6
      go_wp2
      obtain ⟨f5, f6⟩ := FIN.out
      refine bodyPost_ret (v := .agg #[.bool lg, .slice q6 (digs R15 lm).length d6, .slice q7 (digs R15 ln).length d7]) (by simp [results, Try.results41, go_sem, r0, r1, r2]) rfl ⟨_, rfl, f5, f6⟩
    · have e1 := HPL.out
      rw [if_neg hg, if_neg hqp] at e1
      simp only [Prod.mk.injEq] at e1
      obtain ⟨rfl, rfl, rfl⟩ := e1
      have hc0' : cmpN p q < 0 := by unfold cmpN; rw [if_pos (by omega)]; omega
      obtain ⟨c, hc⟩ : ∃ c, c = cmpN p q := ⟨_, rfl⟩
      rw [← hc] at hcmp hc0'
      clear hc HPL
      go_wp2_with fail
      refine hcmp.mono ?_
      clear hc0 hc1 hc2 hc3 hc4 hc5 hcmp
      rintro e w4 ⟨rfl, hb4⟩
      replace hS3 := hS3.step hb4
      replace hn3 := hn3.below hb4
      replace hu1 := hu1.below hb4
      replace hu2 := hu2.below hb4
      clear hb4 hbd
      have hbd : Below w4.heap.size w4 w4.drew := (Below.refl _ _).drew
      obtain ⟨_, hc0, hc1, hc2, hc3, hc4, hc5⟩ := hS3.all
      go_wp2
      have hSd := hS3.drew
      have nd := hn3.below hbd
      have C4 := Lib.hid (rsub_any _ _ q p w4.drew (hu2.below hbd) (hu1.below hbd) (by rw [← HLB.out]; omega) (by omega))
      clear hn3 hu1 hu2 hbd
      go_region_held3 (fun w' => PlS w g1 pg (.slice p1 l1 c1) (.slice p2 l2 c2) (.slice p3 l3 c3) (.slice p4 l4 c4) w' ∧ w'.cell? ⟨w.heap.size, 0, none⟩ = some (.bool g1) ∧ w'.cell? ⟨w.heap.size, 1, none⟩ = some (.slice p1 l1 c1) ∧ w'.cell? ⟨w.heap.size, 2, none⟩ = some (.slice p2 l2 c2) ∧ w'.cell? ⟨w.heap.size + 1, 0, none⟩ = some (.bool pg) ∧ w'.cell? ⟨w.heap.size + 1, 1, none⟩ = some (.slice p3 l3 c3) ∧ w'.cell? ⟨w.heap.size + 1, 2, none⟩ = some (.slice p4 l4 c4)) (first | exact PlS.all (by assumption) | exact PlS.all ((((by assumption : PlS w g1 pg (.slice p1 l1 c1) (.slice p2 l2 c2) (.slice p3 l3 c3) (.slice p4 l4 c4) _).st _ _ (by simp)).st _ _ (by simp)).st _ _ (by simp)))
        (first
          | (go_at_call 62; (with_reducible refine C4.out.mono ?_); rintro e w5 ⟨v5, rfl, hv5, hb5⟩; have hS5 := PlS.step hb5 hSd; have nd5 := nd.below hb5; obtain ⟨q5, d5, e5⟩ := hv5.shape; subst e5)
          | (go_at_call 59; (with_reducible refine (CL.out _ _ (FracR.of_pair hv5 nd5)).mono ?_); rintro e w6 ⟨v6, rfl, hf6, hb6⟩; have hS6 := PlS.step hb6 hS5; obtain ⟨z1, z2, e6, nz1, nz2⟩ := hf6; obtain ⟨q6, d6, e7⟩ := nz1.shape; obtain ⟨q7, d7, e8⟩ := nz2.shape; subst e7 e8 e6; obtain ⟨r0, r1, r2, f0, f1, f2⟩ := hS6.res))
      obtain ⟨r0, r1, r2, f0, f1, f2⟩ := hS6.res
      have FIN := Lib.hid (hS6.fin lg nz1 nz2)
      clear hc0 hc1 hc2 hc3 hc4 hc5 hv5 nd5 nz1 nz2 hS5 hS6
      go_wp2
      obtain ⟨f5, f6⟩ := FIN.out
      refine bodyPost_ret (v := .agg #[.bool lg, .slice q6 (digs R15 lm).length d6, .slice q7 (digs R15 ln).length d7]) (by simp [results, Try.results41, go_sem, r0, r1, r2]) rfl ⟨_, rfl, f5, f6⟩

end Go.Proofs.Ytpjjbdpkhmeldaa
