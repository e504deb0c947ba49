/- contract of ratio's Sum -/
import Derived.Test.YtpjjbdpkhmeldaaDoorB5
namespace Go.Proofs.YtpjjbdpkhmeldaaDoor
open Go.RowKit

/-- the slice with address a reads as the ratios l -/
def RatL (w : World) (a : Option Addr) (l : List (Int × Int)) : Prop :=
  ∀ i (h : i < l.length), ∃ b off, a = some ⟨b, off, none⟩ ∧ b < w.heap.size ∧ w.cell? ⟨b, off + i * 2, none⟩ = some (.int .i64 l[i].1) ∧ w.cell? ⟨b, off + i * 2 + 1, none⟩ = some (.int .i64 l[i].2) ∧ I64 l[i].1 ∧ I64 l[i].2

theorem RatL.below {w w' : World} {a : Option Addr} {l : List (Int × Int)} (h : RatL w a l) (hb : Below w.heap.size w w') : RatL w' a l := by
  intro i hi
  obtain ⟨b, off, ha, hlt, h1, h2, h3⟩ := h i hi
  exact ⟨b, off, ha, Nat.lt_of_lt_of_le hlt hb.size, (hb.cell (p := ⟨b, _, none⟩) hlt).trans h1, (hb.cell (p := ⟨b, _, none⟩) hlt).trans h2, h3⟩

def allV (l : List (Int × Int)) : Bool := l.all fun p => validB p.1 p.2

/-- one term more -/
def stepS (o : Bool × Nat × Nat) (p : Int × Int) : Bool × Nat × Nat :=
  if p.2.natAbs = o.2.2 then ((plusS o.1 o.2.1 1 (decide (p.1 < 0)) p.1.natAbs 1).1, (plusS o.1 o.2.1 1 (decide (p.1 < 0)) p.1.natAbs 1).2.1, o.2.2)
  else plusS o.1 o.2.1 o.2.2 (decide (p.1 < 0)) p.1.natAbs p.2.natAbs
def sumF (l : List (Int × Int)) : Bool × Nat × Nat := l.foldl stepS (false, 0, 1)
def sumS (l : List (Int × Int)) : Int × Int × Int := if allV l then ratioS (sumF l).1 (sumF l).2.1 (sumF l).2.2 else (0, 0, 1)

theorem sumF_snoc (l : List (Int × Int)) (k : Nat) (h : k < l.length) : sumF (l.take (k + 1)) = stepS (sumF (l.take k)) l[k] := by
  unfold sumF
  rw [List.take_succ_eq_append_getElem h, List.foldl_append]
  rfl

/-- the result's box, and what came in -/
def SuI (w wr : World) : Prop := Below w.heap.size w wr ∧ Box wr w.heap.size 23 [.int .i64 0, .int .i64 0]
theorem SuI.step {w w1 w2 : World} (hb : Below w1.heap.size w1 w2) (h : SuI w w1) : SuI w w2 := ⟨h.1.trans (hb.mono h.1.size), h.2.below hb⟩
theorem SuI.alloc {w w1 : World} (h : SuI w w1) (o : Obj) : SuI w (w1.alloc o) := h.step ((Below.refl _ _).alloc (Nat.le_refl _) _)
theorem SuI.start (w : World) : SuI w (w.alloc (Obj.cells #[.int .i64 0, .int .i64 0] 23)) := ⟨(Below.refl _ _).alloc (Nat.le_refl _) _, Box.made w 23 _⟩
theorem SuI.cells {w wr : World} (h : SuI w wr) : wr.cell? ⟨w.heap.size, 0, none⟩ = some (.int .i64 0) ∧ wr.cell? ⟨w.heap.size, 1, none⟩ = some (.int .i64 0) ∧ wr.frozen? ⟨w.heap.size, 0, none⟩ = false ∧ wr.frozen? ⟨w.heap.size, 1, none⟩ = false :=
  ⟨h.2.cell 0 _ rfl, h.2.cell 1 _ rfl, h.2.free 0, h.2.free 1⟩

set_option maxHeartbeats 1000000 in
theorem sum_err (a : Option Addr) (cap : Nat) (l : List (Int × Int)) (w : World) (hl : l.length ≤ 20) (hr : RatL w a l) (hv : Hid (allV l = false)) :
    Calls Tryd.prog 11 #[.slice a l.length cap] w fun e w' => e = RatE (0, 0, 1) ∧ Below w.heap.size w w' := by
  have st := SuI.start w
  go_enter Tryd.func11, Tryd.ntmps11
  go_wp2
  go_loopw [13] (fun s13 wr => ∃ k : Nat, k ≤ l.length ∧ s13 = .int .i64 k ∧ SuI w wr ∧ Hid (∀ j (h : j < l.length), j < k → validB l[j].1 l[j].2 = true)) (fun s13 _ => l.length - (intOf s13).toNat)
  case atStart => exact ⟨0, by omega, rfl, st, fun j _ h => by omega⟩
  case round =>
    obtain ⟨k, hk, rfl, hS, hall⟩ := hrel
    clear st
    by_cases hlt : k < l.length
    · obtain ⟨b, off, rfl, hb, hc1, hc2, hi1, hi2⟩ := hr k hlt
      rw [← hS.1.cell (p := ⟨b, off + k * 2, none⟩) hb] at hc1
      rw [← hS.1.cell (p := ⟨b, off + k * 2 + 1, none⟩) hb] at hc2
      have hnx : Hid (validB l[k].1 l[k].2 = true → ∀ j (h : j < l.length), j < k + 1 → validB l[j].1 l[j].2 = true) := by
        intro h j hj hjk
        by_cases e : j = k
        · subst e; exact h
        · exact hall.out j hj (by omega)
      generalize l[k].1 = n at *
      generalize l[k].2 = d at *
      have hS1 := hS.alloc (Obj.cells #[.int .i64 n, .int .i64 d] 23)
      rcases Bool.eq_false_or_eq_true (validB n d) with hvk | hvk
      · have HV := Lib.hid hvk
        clear hvk
        go_wp2_with fail
        refine (valid_any n d true HV.out _ hi1 hi2).mono ?_
        rintro e w1 ⟨rfl, hb1⟩
        have hS2 := hS1.step hb1
        clear hS1 hS hb1
        go_wp2
        go_roundw
        case rel => exact ⟨k + 1, by omega, by go_num, hS2, hnx.out HV.out⟩
        case measure => simp [intOf]; omega
      · have HV := Lib.hid hvk
        clear hvk
        go_wp2_with fail
        refine (valid_any n d false HV.out _ hi1 hi2).mono ?_
        rintro e w1 ⟨rfl, hb1⟩
        have hS2 := hS1.step hb1
        obtain ⟨k1, k2, k3, k4⟩ := hS2.cells
        clear hS1 hS hb1
        go_wp2
        refine bodyPost_ret (v := .tuple #[.agg #[.int .i64 0, .int .i64 0], .int .i64 1]) (by simp [results, Tryd.results11, go_sem, k1, k2]) rfl ⟨rfl, (hS2.1.setCell (by simp) _).setCell (by simp) _⟩
    · exfalso
      have : allV l = true := by
        unfold allV
        rw [List.all_eq_true]
        intro p hp
        obtain ⟨j, hj, rfl⟩ := List.getElem_of_mem hp
        exact hall.out j hj (by omega)
      rw [hv.out] at this
      cases this

/-- what the loop over the terms keeps -/
def SuO (w wr : World) (bo : Nat) (o : Bool × Nat × Nat) (k : Nat) : Prop :=
  SuI w wr ∧ w.heap.size < bo ∧ (∃ v1 v2, Box wr bo 46 [.bool o.1, v1, v2] ∧ NatV wr .u32 W32 v1 o.2.1 ∧ NatV wr .u32 W32 v2 o.2.2) ∧
  (digs W32 o.2.1).length ≤ 4 * k + 1 ∧ (digs W32 o.2.2).length ≤ 4 * k + 1 ∧ 0 < o.2.2

theorem digs_one_len : (digs W32 1).length ≤ 1 := digs_length_le W32 W32_ge 1 1 (by unfold W32; omega)

theorem plusS_len3 (g1 : Bool) (m1 n1 : Nat) (g2 : Bool) (m2 n2 : Nat) :
    (digs W32 (plusS g1 m1 n1 g2 m2 n2).2.1).length ≤ max ((digs W32 m1).length + (digs W32 n2).length) ((digs W32 m2).length + (digs W32 n1).length) + 1 ∧ (digs W32 (plusS g1 m1 n1 g2 m2 n2).2.2).length ≤ (digs W32 n1).length + (digs W32 n2).length := by
  have a1 := digs_length_mul W32 W32_ge m1 n2
  have a2 := digs_length_mul W32 W32_ge m2 n1
  have a3 := digs_length_mul W32 W32_ge n1 n2
  have a4 := digs_length_add W32 W32_ge (m1 * n2) (m2 * n1)
  have a5 := digs_length_mono W32 W32_ge (m1 * n2 - m2 * n1) (m1 * n2) (Nat.sub_le _ _)
  have a6 := digs_length_mono W32 W32_ge (m2 * n1 - m1 * n2) (m2 * n1) (Nat.sub_le _ _)
  unfold plusS
  split
  · exact ⟨by simp only []; omega, by simp only []; omega⟩
  · split
    · exact ⟨by simp only []; omega, by simp only []; omega⟩
    · exact ⟨by simp only []; omega, by simp only []; omega⟩

theorem stepS_len (o : Bool × Nat × Nat) (p : Int × Int) (k : Nat) (h1 : (digs W32 o.2.1).length ≤ 4 * k + 1) (h2 : (digs W32 o.2.2).length ≤ 4 * k + 1) (h3 : (digs W32 p.1.natAbs).length ≤ 2) (h4 : (digs W32 p.2.natAbs).length ≤ 2) (h5 : 0 < o.2.2) (h6 : 0 < p.2.natAbs) :
    (digs W32 (stepS o p).2.1).length ≤ 4 * (k + 1) + 1 ∧ (digs W32 (stepS o p).2.2).length ≤ 4 * (k + 1) + 1 ∧ 0 < (stepS o p).2.2 := by
  have d1 := digs_one_len
  unfold stepS
  split
  · have := plusS_len3 o.1 o.2.1 1 (decide (p.1 < 0)) p.1.natAbs 1
    exact ⟨by simp only []; omega, by simp only []; omega, h5⟩
  · have := plusS_len3 o.1 o.2.1 o.2.2 (decide (p.1 < 0)) p.1.natAbs p.2.natAbs
    refine ⟨by omega, by omega, ?_⟩
    rw [plusS_den]
    exact Nat.mul_pos h5 h6

theorem SuO.step {w w1 w2 : World} {bo : Nat} {o : Bool × Nat × Nat} {k : Nat} (hb : Below w1.heap.size w1 w2) (h : SuO w w1 bo o k) : SuO w w2 bo o k := by
  obtain ⟨h1, h2, ⟨v1, v2, h3, h4, h5⟩, h6⟩ := h
  exact ⟨h1.step hb, h2, ⟨v1, v2, h3.below hb, h4.below hb, h5.below hb⟩, h6⟩
theorem SuO.alloc {w w1 : World} {bo : Nat} {o : Bool × Nat × Nat} {k : Nat} (h : SuO w w1 bo o k) (x : Obj) : SuO w (w1.alloc x) bo o k := h.step ((Below.refl _ _).alloc (Nat.le_refl _) _)

/-- the two boxes of a round -/
def SuS (w wr : World) (bo bf : Nat) (co cf : List Value) : Prop := SuI w wr ∧ w.heap.size < bo ∧ bo < bf ∧ Box wr bo 46 co ∧ Box wr bf 46 cf
theorem SuS.step {w w1 w2 : World} {bo bf : Nat} {co cf : List Value} (hb : Below w1.heap.size w1 w2) (h : SuS w w1 bo bf co cf) : SuS w w2 bo bf co cf := by
  obtain ⟨h1, h2, h3, h4, h5⟩ := h
  exact ⟨h1.step hb, h2, h3, h4.below hb, h5.below hb⟩
theorem SuI.other {w w1 : World} (h : SuI w w1) (b i : Nat) (hb : w.heap.size < b) (v : Value) : SuI w (w1.setCell ⟨b, i, none⟩ v) := ⟨h.1.setCell (by simp; omega) _, h.2.other (by omega) _ _⟩
theorem SuS.seto {w w1 : World} {bo bf : Nat} {co cf : List Value} (h : SuS w w1 bo bf co cf) (i : Nat) (v : Value) : SuS w (w1.setCell ⟨bo, i, none⟩ v) bo bf (co.set i v) cf := by
  obtain ⟨h1, h2, h3, h4, h5⟩ := h
  exact ⟨h1.other bo i h2 v, h2, h3, h4.set i v, h5.other (by omega) _ _⟩
theorem SuS.setf {w w1 : World} {bo bf : Nat} {co cf : List Value} (h : SuS w w1 bo bf co cf) (i : Nat) (v : Value) : SuS w (w1.setCell ⟨bf, i, none⟩ v) bo bf co (cf.set i v) := by
  obtain ⟨h1, h2, h3, h4, h5⟩ := h
  exact ⟨h1.other bf i (by omega) v, h2, h3, h4.other (by omega) _ _, h5.set i v⟩
theorem SuS.cells {w wr : World} {bo bf : Nat} {o0 o1 o2 f0 f1 f2 : Value} (h : SuS w wr bo bf [o0, o1, o2] [f0, f1, f2]) :
    wr.cell? ⟨bo, 0, none⟩ = some o0 ∧ wr.cell? ⟨bo, 1, none⟩ = some o1 ∧ wr.cell? ⟨bo, 2, none⟩ = some o2 ∧ wr.cell? ⟨bf, 0, none⟩ = some f0 ∧ wr.cell? ⟨bf, 1, none⟩ = some f1 ∧ wr.cell? ⟨bf, 2, none⟩ = some f2 ∧
    wr.frozen? ⟨bo, 0, none⟩ = false ∧ wr.frozen? ⟨bo, 1, none⟩ = false ∧ wr.frozen? ⟨bo, 2, none⟩ = false ∧ wr.frozen? ⟨bf, 2, none⟩ = false :=
  ⟨h.2.2.2.1.cell 0 _ rfl, h.2.2.2.1.cell 1 _ rfl, h.2.2.2.1.cell 2 _ rfl, h.2.2.2.2.cell 0 _ rfl, h.2.2.2.2.cell 1 _ rfl, h.2.2.2.2.cell 2 _ rfl, h.2.2.2.1.free 0, h.2.2.2.1.free 1, h.2.2.2.1.free 2, h.2.2.2.2.free 2⟩
theorem SuS.nato {w wr : World} {bo bf : Nat} {g : Bool} {a1 l1 c1 a2 l2 c2} {cf : List Value} (h : SuS w wr bo bf [.bool g, .slice a1 l1 c1, .slice a2 l2 c2] cf) {v : Value} {n : Nat} (hn : NatV wr .u32 W32 v n) (i : Nat) (u : Value) : NatV (wr.setCell ⟨bo, i, none⟩ u) .u32 W32 v n :=
  hn.box h.2.2.2.1 nodig3 i u
theorem SuS.natf {w wr : World} {bo bf : Nat} {g : Bool} {a1 l1 c1 a2 l2 c2} {co : List Value} (h : SuS w wr bo bf co [.bool g, .slice a1 l1 c1, .slice a2 l2 c2]) {v : Value} {n : Nat} (hn : NatV wr .u32 W32 v n) (i : Nat) (u : Value) : NatV (wr.setCell ⟨bf, i, none⟩ u) .u32 W32 v n :=
  hn.box h.2.2.2.2 nodig3 i u

set_option maxHeartbeats 4000000 in
theorem sum_ok (a : Option Addr) (cap : Nat) (l : List (Int × Int)) (w : World) (hl : l.length ≤ 20) (hr : RatL w a l) (hv : Hid (allV l = true)) :
    Calls Tryd.prog 11 #[.slice a l.length cap] w fun e w' => e = RatE (ratioS (sumF l).1 (sumF l).2.1 (sumF l).2.2) ∧ Below w.heap.size w w' := by
  have st := SuI.start w
  have hall : Hid (∀ j (h : j < l.length), validB l[j].1 l[j].2 = true) := by
    intro j hj
    have := hv.out
    unfold allV at this
    rw [List.all_eq_true] at this
    exact this _ (List.getElem_mem hj)
  go_enter Tryd.func11, Tryd.ntmps11
  go_wp2
  go_loopw [13] (fun s13 wr => ∃ k : Nat, k ≤ l.length ∧ s13 = .int .i64 k ∧ SuI w wr) (fun s13 _ => l.length - (intOf s13).toNat)
  case atStart => exact ⟨0, by omega, rfl, st⟩
  case round =>
    obtain ⟨k, hk, rfl, hS⟩ := hrel
    clear st
    by_cases hlt : k < l.length
    · obtain ⟨b, off, rfl, hb, hc1, hc2, hi1, hi2⟩ := hr k hlt
      rw [← hS.1.cell (p := ⟨b, off + k * 2, none⟩) hb] at hc1
      rw [← hS.1.cell (p := ⟨b, off + k * 2 + 1, none⟩) hb] at hc2
      have HV := Lib.hid (hall.out k hlt)
      generalize l[k].1 = n at *
      generalize l[k].2 = d at *
      have hS1 := hS.alloc (Obj.cells #[.int .i64 n, .int .i64 d] 23)
      go_wp2_with fail
      refine (valid_any n d true HV.out _ hi1 hi2).mono ?_
      rintro e w1 ⟨rfl, hb1⟩
      have hS2 := hS1.step hb1
      clear hS1 hS hb1
      go_wp2
      go_roundw
      case rel => exact ⟨k + 1, by omega, by go_num, hS2⟩
      case measure => simp [intOf]; omega
    · obtain rfl : k = l.length := by omega
      clear hlt
      go_wp2_with fail
      refine (word_any 1 _ (by omega)).mono ?_
      rintro e w1 ⟨v1, rfl, nv1, hb1⟩
      obtain ⟨q1, r1, s1⟩ := nv1.shape
      subst s1
      have hS1 := hS.step hb1
      have hO : SuO w (w1.alloc (Obj.cells #[.bool false, .slice none 0 0, .slice q1 (digs W32 1).length r1] 46)) w1.heap.size (sumF (l.take 0)) 0 := by
        have hsz := hS1.2.lt
        refine ⟨hS1.alloc _, hsz, ⟨_, _, Box.made w1 46 _, ?_, nv1.below ((Below.refl _ _).alloc (Nat.le_refl _) _)⟩, ?_, digs_one_len, by show 0 < 1; omega⟩
        · refine ⟨none, 0, ?_, ?_, ?_⟩
          · show _ = Value.slice none (digs W32 0).length 0
            rw [digs_zero]; rfl
          · show (digs W32 0).length ≤ 0
            rw [digs_zero]; simp
          · show RdN _ _ _ (digs W32 0)
            rw [digs_zero]; intro i hi; simp at hi
        · show (digs W32 0).length ≤ _
          rw [digs_zero]; simp
      clear hS hS1 nv1 hb1
      go_wp2
      obtain ⟨bo, hbo⟩ : ∃ bo, bo = w1.heap.size := ⟨_, rfl⟩
      rw [← hbo] at hO
      rw [← hbo]
      clear hbo
      go_loopw [30] (fun s30 wx => ∃ k : Nat, k ≤ l.length ∧ s30 = .int .i64 k ∧ SuO w wx bo (sumF (l.take k)) k) (fun s30 _ => l.length - (intOf s30).toNat)
      case atStart => exact ⟨0, by omega, rfl, hO⟩
      case round =>
        obtain ⟨k, hk, rfl, hS⟩ := hrel
        clear hO
        by_cases hlt : k < l.length
        · obtain ⟨b, off, rfl, hb, hc1, hc2, hi1, hi2⟩ := hr k hlt
          rw [← hS.1.1.cell (p := ⟨b, off + k * 2, none⟩) hb] at hc1
          rw [← hS.1.1.cell (p := ⟨b, off + k * 2 + 1, none⟩) hb] at hc2
          obtain ⟨g1, g2, g3, g4, g5⟩ := validB_true (hall.out k hlt)
          have hsn := sumF_snoc l k hlt
          obtain ⟨p, hp⟩ : ∃ p, p = l[k] := ⟨_, rfl⟩
          rw [← hp] at hc1 hc2 hi1 hi2 g1 g2 g3 g4 hsn
          have HSN := Lib.hid hsn
          clear hp hsn g5
          obtain ⟨n, dz⟩ := p
          simp only [] at hc1 hc2 hi1 hi2 g1 g2 g3 g4
          obtain ⟨d, rfl⟩ : ∃ d : Nat, dz = d := ⟨dz.toNat, by omega⟩
          obtain ⟨o, ho⟩ : ∃ o, o = sumF (l.take k) := ⟨_, rfl⟩
          rw [← ho] at hS HSN
          clear ho
          obtain ⟨og, om, on⟩ := o
          have hS1 := hS.alloc (Obj.cells #[.int .i64 n, .int .i64 d] 23)
          go_wp2_with fail
          refine (of_any n d _ (by omega) (by omega)).mono ?_
          rintro e w2 ⟨v2, rfl, hf2, hb2⟩
          obtain ⟨x1, x2, ex, nx1, nx2⟩ := hf2
          obtain ⟨q2, r2, s2⟩ := nx1.shape
          obtain ⟨q3, r3, s3⟩ := nx2.shape
          subst s2 s3 ex
          have hS2 := hS1.step hb2
          obtain ⟨hI2, hbo, ⟨y1, y2, hBo, ny1, ny2⟩, hlm, hln, hnp⟩ := hS2
          simp only [] at hBo ny1 ny2 hlm hln hnp
          obtain ⟨q4, r4, s4⟩ := ny1.shape
          obtain ⟨q5, r5, s5⟩ := ny2.shape
          subst s4 s5
          have hl1 := natAbs_len n hi1
          have hl2 := nat_len d (by omega)
          have hlen := stepS_len (og, om, on) (n, (d : Int)) k hlm hln hl1 hl2 hnp (by show 0 < (d : Int).natAbs; omega)
          rw [← HSN.out] at hlen
          have hwA : Below w2.heap.size w2 (w2.alloc (Obj.cells #[.bool (decide (n < 0)), .slice q2 (digs W32 n.natAbs).length r2, .slice q3 (digs W32 d).length r3] 46)) := (Below.refl _ _).alloc (Nat.le_refl _) _
          have hJ : SuS w (w2.alloc (Obj.cells #[.bool (decide (n < 0)), .slice q2 (digs W32 n.natAbs).length r2, .slice q3 (digs W32 d).length r3] 46)) bo w2.heap.size [.bool og, .slice q4 (digs W32 om).length r4, .slice q5 (digs W32 on).length r5] [.bool (decide (n < 0)), .slice q2 (digs W32 n.natAbs).length r2, .slice q3 (digs W32 d).length r3] :=
            ⟨hI2.step hwA, hbo, hBo.lt, hBo.below hwA, Box.made w2 46 _⟩
          have mx1 := nx1.below hwA
          have mx2 := nx2.below hwA
          have my1 := ny1.below hwA
          have my2 := ny2.below hwA
          obtain ⟨w3, hw3⟩ : ∃ w3, w3 = w2.alloc (Obj.cells #[.bool (decide (n < 0)), .slice q2 (digs W32 n.natAbs).length r2, .slice q3 (digs W32 d).length r3] 46) := ⟨_, rfl⟩
          obtain ⟨bf, hbf⟩ : ∃ bf, bf = w2.heap.size := ⟨_, rfl⟩
          have HLEN := Lib.hid hlen
          have z1 := hBo.lt
          have z2 := hBo.cell 2 _ rfl
          clear hI2 hBo ny1 ny2 nx1 nx2 hS hS1 hb2 hwA hc1 hc2 hi1 hi2 g1 g3 g4 hlen
          go_wp2_with fail
          clear z1 z2
          rw [← hw3, ← hbf] at hJ
          rw [← hw3] at mx1 mx2 my1 my2
          rw [← hw3, ← hbf]
          clear hw3 hbf
          obtain ⟨L1, hL1⟩ : ∃ x, x = (digs W32 n.natAbs).length := ⟨_, rfl⟩
          obtain ⟨L2, hL2⟩ : ∃ x, x = (digs W32 d).length := ⟨_, rfl⟩
          obtain ⟨L3, hL3⟩ : ∃ x, x = (digs W32 om).length := ⟨_, rfl⟩
          obtain ⟨L4, hL4⟩ : ∃ x, x = (digs W32 on).length := ⟨_, rfl⟩
          rw [← hL1, ← hL2, ← hL3, ← hL4] at hJ
          rw [← hL1] at mx1; rw [← hL2] at mx2; rw [← hL3] at my1; rw [← hL4] at my2
          rw [← hL1, ← hL2, ← hL4]
          clear hL1 hL2 hL3 hL4
          have hbof := hJ.2.2.1
          have hcm := cmp_any (.slice q3 L2 r3) (.slice q5 L4 r5) d on w3 mx2 my2 (by omega) (by omega)
          by_cases hden : d = on
          · subst hden
            rw [cmpN_eq] at hcm
            have hst : stepS (og, om, d) (n, (d : Int)) = ((plusS og om 1 (decide (n < 0)) n.natAbs 1).1, (plusS og om 1 (decide (n < 0)) n.natAbs 1).2.1, d) := by
              unfold stepS; rw [if_pos (by show (d : Int).natAbs = d; omega)]
            have HST := Lib.hid (HSN.out.trans hst)
            clear hst HSN
            have HC := Lib.hid hcm
            clear hcm
            refine HC.out.mono ?_
            rintro e w4 ⟨rfl, hb4⟩
            have hJ4 := hJ.step hb4
            have nx1 := mx1.below hb4
            have ny1 := my1.below hb4
            have nd := my2.below hb4
            clear hb4 hJ mx1 mx2 my1 my2 HC
            go_wp2_with fail
            -- f.den = 1
            refine (word_any 1 _ (by omega)).mono ?_
            rintro e w5 ⟨v5, rfl, n5, hb5⟩
            obtain ⟨q6, r6, s6⟩ := n5.shape
            subst s6
            replace hJ4 := hJ4.step hb5
            replace nx1 := nx1.below hb5
            replace ny1 := ny1.below hb5
            replace nd := nd.below hb5
            clear hb5
            obtain ⟨c1, c2, c3, c4, c5, c6, c7, c8, c9, c10⟩ := hJ4.cells
            have hJ5 := hJ4.setf 2 (.slice q6 (digs W32 1).length r6)
            have n5' := hJ4.natf n5 2 (.slice q6 (digs W32 1).length r6)
            replace nx1 := hJ4.natf nx1 2 (.slice q6 (digs W32 1).length r6)
            replace ny1 := hJ4.natf ny1 2 (.slice q6 (digs W32 1).length r6)
            replace nd := hJ4.natf nd 2 (.slice q6 (digs W32 1).length r6)
            go_wp2_with fail
            clear c1 c2 c3 c4 c5 c6 c7 c8 c9 c10 hJ4 n5
            -- out.den = 1
            refine (word_any 1 _ (by omega)).mono ?_
            rintro e w6 ⟨v6, rfl, n6, hb6⟩
            obtain ⟨q7, r7, s7⟩ := n6.shape
            subst s7
            replace hJ5 := hJ5.step hb6
            replace nx1 := nx1.below hb6
            replace ny1 := ny1.below hb6
            replace nd := nd.below hb6
            replace n5' := n5'.below hb6
            clear hb6
            obtain ⟨c1, c2, c3, c4, c5, c6, c7, c8, c9, c10⟩ := hJ5.cells
            have hJ6 := hJ5.seto 2 (.slice q7 (digs W32 1).length r7)
            have n6' := hJ5.nato n6 2 (.slice q7 (digs W32 1).length r7)
            replace nx1 := hJ5.nato nx1 2 (.slice q7 (digs W32 1).length r7)
            replace ny1 := hJ5.nato ny1 2 (.slice q7 (digs W32 1).length r7)
            replace nd := hJ5.nato nd 2 (.slice q7 (digs W32 1).length r7)
            replace n5' := hJ5.nato n5' 2 (.slice q7 (digs W32 1).length r7)
            have d1 := digs_one_len
            go_wp2_with fail
            clear c1 c2 c3 c4 c5 c6 c7 c8 c9 c10 hJ5 n6
            refine (fadd_any _ _ og (decide (n < 0)) om 1 n.natAbs 1 _ ⟨_, _, rfl, ny1, n6'⟩ ⟨_, _, rfl, nx1, n5'⟩ (by omega) (by omega) (by omega) (by omega)).mono ?_
            rintro e w7 ⟨v7, rfl, f7, hb7⟩
            obtain ⟨p1, p2, e7, np1, np2⟩ := f7
            obtain ⟨q8, r8, s8⟩ := np1.shape
            obtain ⟨q9, r9, s9⟩ := np2.shape
            subst s8 s9 e7
            have hJ7 := hJ6.step hb7
            replace nd := nd.below hb7
            clear nx1 ny1 n5' n6' hb7 hJ6
            obtain ⟨c1, c2, c3, c4, c5, c6, c7, c8, c9, c10⟩ := hJ7.cells
            obtain ⟨pg, hpg⟩ : ∃ x, x = (plusS og om 1 (decide (n < 0)) n.natAbs 1).1 := ⟨_, rfl⟩
            obtain ⟨pm, hpm⟩ : ∃ x, x = (plusS og om 1 (decide (n < 0)) n.natAbs 1).2.1 := ⟨_, rfl⟩
            obtain ⟨pn, hpn⟩ : ∃ x, x = (plusS og om 1 (decide (n < 0)) n.natAbs 1).2.2 := ⟨_, rfl⟩
            rw [← hpm] at np1
            rw [← hpn] at np2
            rw [← hpg, ← hpm, ← hpn]
            have HST2 := HST.out
            rw [← hpg, ← hpm] at HST2
            have HS2 := Lib.hid HST2
            clear hpg hpm hpn HST2 HST
            have hJ8 := ((hJ7.seto 0 (.bool pg)).seto 1 (.slice q8 (digs W32 pm).length r8)).seto 2 (.slice q9 (digs W32 pn).length r9)
            have nd8 := (hJ7.seto 0 (.bool pg)).nato (hJ7.nato nd 0 (.bool pg)) 1 (.slice q8 (digs W32 pm).length r8)
            replace nd8 := ((hJ7.seto 0 (.bool pg)).seto 1 (.slice q8 (digs W32 pm).length r8)).nato nd8 2 (.slice q9 (digs W32 pn).length r9)
            have np8 := (hJ7.seto 0 (.bool pg)).nato (hJ7.nato np1 0 (.bool pg)) 1 (.slice q8 (digs W32 pm).length r8)
            replace np8 := ((hJ7.seto 0 (.bool pg)).seto 1 (.slice q8 (digs W32 pm).length r8)).nato np8 2 (.slice q9 (digs W32 pn).length r9)
            have hJ9 := hJ8.seto 2 (.slice q5 L4 r5)
            replace nd8 := hJ8.nato nd8 2 (.slice q5 L4 r5)
            replace np8 := hJ8.nato np8 2 (.slice q5 L4 r5)
            go_wp2
            go_roundw
            case rel =>
              refine ⟨k + 1, by omega, by go_num, hJ9.1, hbo, ?_, HLEN.out⟩
              rw [HS2.out]
              exact ⟨_, _, hJ9.2.2.2.1, np8, nd8⟩
            case measure => simp [intOf]; omega
          · have hst : stepS (og, om, on) (n, (d : Int)) = plusS og om on (decide (n < 0)) n.natAbs d := by
              unfold stepS; rw [if_neg (by show ¬ (d : Int).natAbs = on; omega)]; rfl
            have HST := Lib.hid (HSN.out.trans hst)
            clear hst HSN
            obtain ⟨c, hc⟩ : ∃ c, c = cmpN d on := ⟨_, rfl⟩
            have hc0 : (c == 0) = false := by
              rw [hc]; unfold cmpN; split
              · rfl
              · split
                · rfl
                · omega
            rw [← hc] at hcm
            clear hc hden
            have HC := Lib.hid hcm
            clear hcm
            refine HC.out.mono ?_
            rintro e w4 ⟨rfl, hb4⟩
            have hJ4 := hJ.step hb4
            replace mx1 := mx1.below hb4
            replace mx2 := mx2.below hb4
            replace my1 := my1.below hb4
            replace my2 := my2.below hb4
            clear hb4 hJ HC
            obtain ⟨c1, c2, c3, c4, c5, c6, c7, c8, c9, c10⟩ := hJ4.cells
            go_wp2_with fail
            clear c1 c2 c3 c4 c5 c6 c7 c8 c9 c10
            refine (fadd_any _ _ og (decide (n < 0)) om on n.natAbs d _ ⟨_, _, rfl, my1, my2⟩ ⟨_, _, rfl, mx1, mx2⟩ (by omega) (by omega) (by omega) (by omega)).mono ?_
            rintro e w7 ⟨v7, rfl, f7, hb7⟩
            obtain ⟨p1, p2, e7, np1, np2⟩ := f7
            obtain ⟨q8, r8, s8⟩ := np1.shape
            obtain ⟨q9, r9, s9⟩ := np2.shape
            subst s8 s9 e7
            have hJ7 := hJ4.step hb7
            clear mx1 mx2 my1 my2 hb7 hJ4
            obtain ⟨c1, c2, c3, c4, c5, c6, c7, c8, c9, c10⟩ := hJ7.cells
            obtain ⟨pp, hpp⟩ : ∃ x, x = plusS og om on (decide (n < 0)) n.natAbs d := ⟨_, rfl⟩
            rw [← hpp] at np1 np2
            rw [← hpp]
            have HST2 := HST.out
            rw [← hpp] at HST2
            have HS2 := Lib.hid HST2
            clear hpp HST2 HST
            obtain ⟨pg, pm, pn⟩ := pp
            simp only [] at np1 np2
            have hJ8 := ((hJ7.seto 0 (.bool pg)).seto 1 (.slice q8 (digs W32 pm).length r8)).seto 2 (.slice q9 (digs W32 pn).length r9)
            have nd8 := (hJ7.seto 0 (.bool pg)).nato (hJ7.nato np2 0 (.bool pg)) 1 (.slice q8 (digs W32 pm).length r8)
            replace nd8 := ((hJ7.seto 0 (.bool pg)).seto 1 (.slice q8 (digs W32 pm).length r8)).nato nd8 2 (.slice q9 (digs W32 pn).length r9)
            have np8 := (hJ7.seto 0 (.bool pg)).nato (hJ7.nato np1 0 (.bool pg)) 1 (.slice q8 (digs W32 pm).length r8)
            replace np8 := ((hJ7.seto 0 (.bool pg)).seto 1 (.slice q8 (digs W32 pm).length r8)).nato np8 2 (.slice q9 (digs W32 pn).length r9)
            go_wp2
            go_roundw
            case rel =>
              refine ⟨k + 1, by omega, by go_num, hJ8.1, hbo, ?_, HLEN.out⟩
              rw [HS2.out]
              exact ⟨_, _, hJ8.2.2.2.1, np8, nd8⟩
            case measure => simp [intOf]; omega
        · obtain rfl : k = l.length := by omega
          rw [List.take_length] at hS
          obtain ⟨hI, hbo, ⟨y1, y2, hBo, ny1, ny2⟩, hlm, hln, hnp⟩ := hS
          obtain ⟨p, hp⟩ : ∃ p, p = sumF l := ⟨_, rfl⟩
          rw [← hp] at hBo ny1 ny2 hlm hln hnp
          have HP := Lib.hid hp
          clear hp hlt
          obtain ⟨p1, p2, p3⟩ := p
          simp only [] at hBo ny1 ny2 hlm hln hnp
          obtain ⟨q4, r4, s4⟩ := ny1.shape
          obtain ⟨q5, r5, s5⟩ := ny2.shape
          subst s4 s5
          have z0 := hBo.cell 0 _ rfl
          have z1 := hBo.cell 1 _ rfl
          have z2 := hBo.cell 2 _ rfl
          have RT := Lib.hid (ratio_any _ p1 p2 p3 _ ⟨_, _, rfl, ny1, ny2⟩ (by omega) (by omega) hnp)
          clear ny1 ny2
          go_wp2_with fail
          refine RT.out.mono ?_
          rintro e w9 ⟨he, hb9⟩
          obtain ⟨x1, x2, x3, hx, he'⟩ := RatE_cases he
          subst he'
          have hI9 := hI.step hb9
          obtain ⟨k1, k2, k3, k4⟩ := hI9.cells
          clear z0 z1 z2 hI hBo hb9 RT
          go_wp2
          refine bodyPost_ret (v := .tuple #[.agg #[.int .i64 x1, .int .i64 x2], .int .i64 x3]) (by simp [results, Tryd.results11, go_sem, k1, k2]) rfl ⟨?_, (hI9.1.setCell (by simp) _).setCell (by simp) _⟩
          rw [← HP.out, ← hx]
          rfl

theorem sum_ratio (a : Option Addr) (cap : Nat) (l : List (Int × Int)) (w : World) (hl : l.length ≤ 20) (hr : RatL w a l) :
    Calls Tryd.prog 11 #[.slice a l.length cap] w fun e w' => e = RatE (sumS l) ∧ Below w.heap.size w w' := by
  rcases Bool.eq_false_or_eq_true (allV l) with h | h
  · have e : sumS l = ratioS (sumF l).1 (sumF l).2.1 (sumF l).2.2 := by unfold sumS; rw [h]; rfl
    rw [e]; exact sum_ok a cap l w hl hr h
  · have e : sumS l = (0, 0, 1) := by unfold sumS; rw [h]; rfl
    rw [e]; exact sum_err a cap l w hl hr h

end Go.Proofs.YtpjjbdpkhmeldaaDoor
