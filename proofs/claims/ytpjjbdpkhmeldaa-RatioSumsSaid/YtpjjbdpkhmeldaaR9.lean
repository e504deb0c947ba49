/- contract of the reference's Sum -/
import Derived.Test.YtpjjbdpkhmeldaaR8
namespace Go.Proofs.Ytpjjbdpkhmeldaa
open Go.RowKit

def stepG (o : Bool × Nat × Nat) (p : Int × Int) : Bool × Nat × Nat :=
  lowS (plusS o.1 o.2.1 o.2.2 (decide (p.1 < 0)) p.1.natAbs p.2.natAbs).1 (plusS o.1 o.2.1 o.2.2 (decide (p.1 < 0)) p.1.natAbs p.2.natAbs).2.1 (plusS o.1 o.2.1 o.2.2 (decide (p.1 < 0)) p.1.natAbs p.2.natAbs).2.2
def sumG (l : List (Int × Int)) : Bool × Nat × Nat := l.foldl stepG (false, 0, 1)

theorem sumG_snoc (l : List (Int × Int)) (k : Nat) (h : k < l.length) : sumG (l.take (k + 1)) = stepG (sumG (l.take k)) l[k] := by
  unfold sumG
  rw [List.take_succ_eq_append_getElem h, List.foldl_append]
  rfl

set_option maxHeartbeats 1000000 in
theorem rsum_err (a : Option Addr) (cap : Nat) (l : List (Int × Int)) (w : World) (hl : l.length ≤ 20) (hr : RatL w a l) (hv : Hid (allV l = false)) :
    Calls Try.prog 11 #[.slice a l.length cap] w fun e w' => e = RatE (0, 0, 1) ∧ Below w.heap.size w w' := by
  have st := SuI.start w
  go_enter Try.func11, Try.ntmps11
  go_wp2
  go_loopw [4] (fun s4 wr => ∃ k : Nat, k ≤ l.length ∧ s4 = .int .i64 k ∧ SuI w wr ∧ Hid (∀ j (h : j < l.length), j < k → validB l[j].1 l[j].2 = true)) (fun s4 _ => l.length - (intOf s4).toNat)
  case atStart => exact ⟨0, by omega, rfl, st, fun j _ h => by omega⟩
  case round =>
    obtain ⟨k, hk, rfl, hS, hall⟩ := hrel
    clear st
    by_cases hlt : k < l.length
    · obtain ⟨b, off, rfl, hb, hc1, hc2, hi1, hi2⟩ := hr k hlt
      rw [← hS.1.cell (p := ⟨b, off + k * 2, none⟩) hb] at hc1
      rw [← hS.1.cell (p := ⟨b, off + k * 2 + 1, none⟩) hb] at hc2
      have hnx : Hid (validB l[k].1 l[k].2 = true → ∀ j (h : j < l.length), j < k + 1 → validB l[j].1 l[j].2 = true) := by
        intro h j hj hjk
        by_cases e : j = k
        · subst e; exact h
        · exact hall.out j hj (by omega)
      generalize l[k].1 = n at *
      generalize l[k].2 = d at *
      rcases Bool.eq_false_or_eq_true (validB n d) with hvk | hvk
      · have HV := Lib.hid hvk
        clear hvk
        go_wp2_with fail
        refine (rvalid_any n d true HV.out _ hi1 hi2).mono ?_
        rintro e w1 ⟨rfl, hb1⟩
        have hS2 := hS.step hb1
        clear hS hb1
        go_wp2
        go_roundw
        case rel => exact ⟨k + 1, by omega, by go_num, hS2, hnx.out HV.out⟩
        case measure => simp [intOf]; omega
      · have HV := Lib.hid hvk
        clear hvk
        go_wp2_with fail
        refine (rvalid_any n d false HV.out _ hi1 hi2).mono ?_
        rintro e w1 ⟨rfl, hb1⟩
        have hS2 := hS.step hb1
        obtain ⟨k1, k2, k3, k4⟩ := hS2.cells
        clear hS hb1
        go_wp2
        refine bodyPost_ret (v := .tuple #[.agg #[.int .i64 0, .int .i64 0], .int .i64 1]) (by simp [results, Try.results11, go_sem, k1, k2]) rfl ⟨rfl, (hS2.1.setCell (by simp) _).setCell (by simp) _⟩
    · exfalso
      have : allV l = true := by
        unfold allV
        rw [List.all_eq_true]
        intro p hp
        obtain ⟨j, hj, rfl⟩ := List.getElem_of_mem hp
        exact hall.out j hj (by omega)
      rw [hv.out] at this
      cases this

/-- what the loop over the terms keeps -/
def SgO (w wr : World) (bo : Nat) (o : Bool × Nat × Nat) (k : Nat) : Prop :=
  SuI w wr ∧ w.heap.size < bo ∧ (∃ v1 v2, Box wr bo 54 [.bool o.1, v1, v2] ∧ NatV wr .i64 R15 v1 o.2.1 ∧ NatV wr .i64 R15 v2 o.2.2) ∧
  (digs R15 o.2.1).length ≤ 6 * k + 1 ∧ (digs R15 o.2.2).length ≤ 6 * k + 1 ∧ 0 < o.2.2

theorem lowS_len (g : Bool) (m n K : Nat) (h1 : (digs R15 m).length ≤ K) (h2 : (digs R15 n).length ≤ K) : (digs R15 (lowS g m n).2.1).length ≤ K ∧ (digs R15 (lowS g m n).2.2).length ≤ K :=
  ⟨Nat.le_trans (digs_length_mono R15 R15_ge _ _ (Nat.div_le_self _ _)) h1, Nat.le_trans (digs_length_mono R15 R15_ge _ _ (Nat.div_le_self _ _)) h2⟩

theorem stepG_len (o : Bool × Nat × Nat) (p : Int × Int) (k : Nat) (h1 : (digs R15 o.2.1).length ≤ 6 * k + 1) (h2 : (digs R15 o.2.2).length ≤ 6 * k + 1) (h3 : (digs R15 p.1.natAbs).length ≤ 5) (h4 : (digs R15 p.2.natAbs).length ≤ 5) (h5 : 0 < o.2.2) (h6 : 0 < p.2.natAbs) :
    (digs R15 (stepG o p).2.1).length ≤ 6 * (k + 1) + 1 ∧ (digs R15 (stepG o p).2.2).length ≤ 6 * (k + 1) + 1 ∧ 0 < (stepG o p).2.2 := by
  have a1 := digs_length_mul R15 R15_ge o.2.1 p.2.natAbs
  have a2 := digs_length_mul R15 R15_ge p.1.natAbs o.2.2
  have a3 := digs_length_mul R15 R15_ge o.2.2 p.2.natAbs
  have a4 := digs_length_add R15 R15_ge (o.2.1 * p.2.natAbs) (p.1.natAbs * o.2.2)
  have a5 := digs_length_mono R15 R15_ge (o.2.1 * p.2.natAbs - p.1.natAbs * o.2.2) (o.2.1 * p.2.natAbs) (Nat.sub_le _ _)
  have a6 := digs_length_mono R15 R15_ge (p.1.natAbs * o.2.2 - o.2.1 * p.2.natAbs) (p.1.natAbs * o.2.2) (Nat.sub_le _ _)
  have pd := plusS_den o.1 o.2.1 o.2.2 (decide (p.1 < 0)) p.1.natAbs p.2.natAbs
  have pl : (digs R15 (plusS o.1 o.2.1 o.2.2 (decide (p.1 < 0)) p.1.natAbs p.2.natAbs).2.1).length ≤ 6 * (k + 1) + 1 := by
    unfold plusS
    split
    · simp only []; omega
    · split
      · simp only []; omega
      · simp only []; omega
  unfold stepG
  generalize plusS o.1 o.2.1 o.2.2 (decide (p.1 < 0)) p.1.natAbs p.2.natAbs = q at *
  have hq : (digs R15 q.2.2).length ≤ 6 * (k + 1) + 1 := by rw [pd]; omega
  have hq0 : 0 < q.2.2 := by rw [pd]; exact Nat.mul_pos h5 h6
  obtain ⟨l1, l2⟩ := lowS_len q.1 q.2.1 q.2.2 _ pl hq
  exact ⟨l1, l2, Nat.div_pos (Nat.gcd_le_right _ hq0) (Nat.gcd_pos_of_pos_right _ hq0)⟩

theorem SgO.step {w w1 w2 : World} {bo : Nat} {o : Bool × Nat × Nat} {k : Nat} (hb : Below w1.heap.size w1 w2) (h : SgO w w1 bo o k) : SgO w w2 bo o k := by
  obtain ⟨h1, h2, ⟨v1, v2, h3, h4, h5⟩, h6⟩ := h
  exact ⟨h1.step hb, h2, ⟨v1, v2, h3.below hb, h4.below hb, h5.below hb⟩, h6⟩

/-- the region of a round -/
def SgF (w : World) (bo : Nat) (g : Bool) (x1 x2 : Value) (m n : Nat) (a : Option Addr) (L cap k : Nat) (b off : Nat) (rn rd : Int) (lg : Bool) (lm ln : Nat) (D : Nat → Bool) (V : Nat → Value) (w' : World) : Prop :=
  SuI w w' ∧ HasR w' bo 54 3 ∧ (D 7 = false → Box w' bo 54 [.bool g, x1, x2]) ∧ (NatV w' .i64 R15 x1 m ∧ NatV w' .i64 R15 x2 n) ∧
  (D 0 = true → V 32 = .agg #[.bool g, x1, x2]) ∧ (D 1 = true → V 33 = .slice a L cap) ∧ (D 2 = true → V 34 = .int .i64 k) ∧ (D 3 = true → V 35 = .pointer (some ⟨b, off + k * 2, none⟩)) ∧
  (D 4 = true → V 36 = .agg #[.int .i64 rn, .int .i64 rd]) ∧ (D 5 = true → FracR w' (V 37) (decide (rn < 0)) rn.natAbs rd.natAbs) ∧ (D 6 = true → FracR w' (V 38) lg lm ln) ∧
  (D 7 = true → ∃ y1 y2, Box w' bo 54 [.bool lg, y1, y2] ∧ NatV w' .i64 R15 y1 lm ∧ NatV w' .i64 R15 y2 ln) ∧ (D 7 = true → D 6 = true) ∧ (D 6 = true → D 0 = true)

theorem Box.ofHas3 {w : World} {bo : Nat} {T : TypeId} {cs : List Value} (h : Box w bo T cs) (hl : cs.length = 3) (x y z : Value) : Box (set3 w bo x y z) bo T [x, y, z] := by
  match cs, hl with
  | [p, q, r], _ => exact ((h.set 0 x).set 1 y).set 2 z

set_option maxHeartbeats 8000000 in
theorem rsum_ok (a : Option Addr) (cap : Nat) (l : List (Int × Int)) (w : World) (hl : l.length ≤ 20) (hr : RatL w a l) (hv : Hid (allV l = true)) :
    Calls Try.prog 11 #[.slice a l.length cap] w fun e w' => e = RatE (ratioS (sumG l).1 (sumG l).2.1 (sumG l).2.2) ∧ Below w.heap.size w w' := by
  have st := SuI.start w
  have hall : Hid (∀ j (h : j < l.length), validB l[j].1 l[j].2 = true) := by
    intro j hj
    have := hv.out
    unfold allV at this
    rw [List.all_eq_true] at this
    exact this _ (List.getElem_mem hj)
  go_enter Try.func11, Try.ntmps11
  go_wp2
  go_loopw [4] (fun s4 wr => ∃ k : Nat, k ≤ l.length ∧ s4 = .int .i64 k ∧ SuI w wr) (fun s4 _ => l.length - (intOf s4).toNat)
  case atStart => exact ⟨0, by omega, rfl, st⟩
  case round =>
    obtain ⟨k, hk, rfl, hS⟩ := hrel
    clear st
    by_cases hlt : k < l.length
    · obtain ⟨b, off, rfl, hb, hc1, hc2, hi1, hi2⟩ := hr k hlt
      rw [← hS.1.cell (p := ⟨b, off + k * 2, none⟩) hb] at hc1
      rw [← hS.1.cell (p := ⟨b, off + k * 2 + 1, none⟩) hb] at hc2
      have HV := Lib.hid (hall.out k hlt)
      generalize l[k].1 = n at *
      generalize l[k].2 = d at *
      go_wp2_with fail
      refine (rvalid_any n d true HV.out _ hi1 hi2).mono ?_
      rintro e w1 ⟨rfl, hb1⟩
      have hS2 := hS.step hb1
      clear hS hb1
      go_wp2
      go_roundw
      case rel => exact ⟨k + 1, by omega, by go_num, hS2⟩
      case measure => simp [intOf]; omega
    · obtain rfl : k = l.length := by omega
      clear hlt
      have hgt : decide ((1000 : Int) < (l.length : Int)) = false := by simp; omega
      have hO : SgO w ((wr.alloc (Obj.cells #[.int .i64 1] 3)).alloc (Obj.cells #[.bool false, .slice none 0 0, .slice (some ⟨wr.heap.size, 0, none⟩) 1 1] 54)) (wr.heap.size + 1) (sumG (l.take 0)) 0 := by
        have hsz := hS.2.lt
        have n1 := NatV.litR wr 1 (by omega)
        rw [digs1] at n1
        have hB := Box.made (wr.alloc (Obj.cells #[.int .i64 1] 3)) 54 [.bool false, .slice none 0 0, .slice (some ⟨wr.heap.size, 0, none⟩) 1 1]
        rw [alloc_size] at hB
        refine ⟨(hS.alloc _).alloc _, by omega, ⟨_, _, hB, NatV.zeroR _, n1.below ((Below.refl _ _).alloc (Nat.le_refl _) _)⟩, ?_, ?_, by show 0 < 1; omega⟩
        · show (digs R15 0).length ≤ _
          rw [digs_zero]; simp
        · show (digs R15 1).length ≤ _
          rw [digs1]; omega
      clear hS
      go_wp2
      obtain ⟨bo, hbo⟩ : ∃ bo, bo = wr.heap.size + 1 := ⟨_, rfl⟩
      obtain ⟨w0, hw0⟩ : ∃ w0, w0 = ((wr.alloc (Obj.cells #[.int .i64 1] 3)).alloc (Obj.cells #[.bool false, .slice none 0 0, .slice (some ⟨wr.heap.size, 0, none⟩) 1 1] 54)) := ⟨_, rfl⟩
      rw [← hbo, ← hw0] at hO
      rw [← hbo, ← hw0]
      clear hbo hw0
      go_loopw [6] (fun s6 wx => ∃ k : Nat, k ≤ l.length ∧ s6 = .int .i64 k ∧ SgO w wx bo (sumG (l.take k)) k) (fun s6 _ => l.length - (intOf s6).toNat)
      case atStart => exact ⟨0, by omega, rfl, hO⟩
      case round =>
        obtain ⟨k, hk, rfl, hS⟩ := hrel
        clear hO
        by_cases hlt : k < l.length
        · obtain ⟨b, off, rfl, hb, hc1, hc2, hi1, hi2⟩ := hr k hlt
          obtain ⟨g1, g2, g3, g4, g5⟩ := validB_true (hall.out k hlt)
          have hsn := sumG_snoc l k hlt
          obtain ⟨p, hp⟩ : ∃ p, p = l[k] := ⟨_, rfl⟩
          rw [← hp] at hc1 hc2 hi1 hi2 g1 g2 g3 g4 hsn
          have HSN := Lib.hid hsn
          clear hp hsn g5
          obtain ⟨n, d⟩ := p
          simp only [] at hc1 hc2 hi1 hi2 g1 g2 g3 g4
          obtain ⟨o, ho⟩ : ∃ o, o = sumG (l.take k) := ⟨_, rfl⟩
          rw [← ho] at hS HSN
          clear ho
          obtain ⟨og, om, on⟩ := o
          obtain ⟨hI, hbo, ⟨x1, x2, hBx, nx1, nx2⟩, hlm, hln, hnp⟩ := hS
          simp only [] at hBx nx1 nx2 hlm hln hnp
          have hl1 := natAbs_lenR n hi1
          have hl2 := natAbs_lenR d hi2
          have hlen := stepG_len (og, om, on) (n, d) k hlm hln hl1 hl2 hnp (by show 0 < d.natAbs; omega)
          rw [← HSN.out] at hlen
          have CW := Lib.hid (fun wx => rwide_any n d wx hi1 hi2)
          have CP := Lib.hid (fun va vb wx h1 h2 => rplus_any va vb og (decide (n < 0)) om on n.natAbs d.natAbs wx h1 h2 (by omega) (by omega) (by omega) (by omega) hnp (by omega))
          have HST : Hid (stepG (og, om, on) (n, d) = lowS (plusS og om on (decide (n < 0)) n.natAbs d.natAbs).1 (plusS og om on (decide (n < 0)) n.natAbs d.natAbs).2.1 (plusS og om on (decide (n < 0)) n.natAbs d.natAbs).2.2) := Lib.hid rfl
          obtain ⟨q, hq⟩ : ∃ q, q = lowS (plusS og om on (decide (n < 0)) n.natAbs d.natAbs).1 (plusS og om on (decide (n < 0)) n.natAbs d.natAbs).2.1 (plusS og om on (decide (n < 0)) n.natAbs d.natAbs).2.2 := ⟨_, rfl⟩
          rw [← hq] at CP HST
          clear hq
          have HS2 := Lib.hid (HSN.out.trans HST.out)
          rw [HS2.out] at hlen
          clear HSN HST
          obtain ⟨lg, lm, ln⟩ := q
          simp only [] at CP hlen
          have hne : w.heap.size ≠ bo := by omega
          have HLEN := Lib.hid hlen
          obtain ⟨p1, c1, s1⟩ := nx1.shape
          obtain ⟨p2, c2, s2⟩ := nx2.shape
          subst s1 s2
          obtain ⟨L1, hL1⟩ : ∃ x, x = (digs R15 om).length := ⟨_, rfl⟩
          obtain ⟨L2, hL2⟩ : ∃ x, x = (digs R15 on).length := ⟨_, rfl⟩
          rw [← hL1] at nx1 hBx
          rw [← hL2] at nx2 hBx
          clear hL1 hL2 hlm hln hnp hl1 hl2 hlen
          go_upto_region 12 with fail
          refine wp_region_V (by kernel_rfl) [32, 33, 34, 35, 36, 37, 38] (by kernel_rfl) (by intro s hs; simp at hs ⊢; omega) (SgF w bo og (.slice p1 L1 c1) (.slice p2 L2 c2) om on (some ⟨b, off, none⟩) l.length cap k b off n d lg lm ln) ?_ ?_ ?_
          · have hbd := fun (wq : World) => (Below.refl wq.heap.size wq).drew
            exact ⟨hI.step (hbd _), HasR.box (hBx.below (hbd _)), fun _ => hBx.below (hbd _), ⟨nx1.below (hbd _), nx2.below (hbd _)⟩, by simp, by simp, by simp, by simp, by simp, by simp, by simp, by simp, by simp, by simp⟩
          · intro i o D V w' ho hF hDi hpre hV
            obtain ⟨f0, fh, fb, ⟨fz1, fz2⟩, f1, f2, f3, f4, f5, f6, f7, f8, f9, f10⟩ := hF
            have hV0 := hV 0 (by simp)
            have hV5 := hV 5 (by simp)
            have hV6 := hV 6 (by simp)
            simp at hV0 hV5 hV6
            have k1 := (f0.1.cell (p := ⟨b, off + k * 2, none⟩) hb).trans hc1
            have k2 := (f0.1.cell (p := ⟨b, off + k * 2 + 1, none⟩) hb).trans hc2
            rcases i with _ | _ | _ | _ | _ | _ | _ | _ | i
            · simp at ho; subst ho
              have h7 : D 7 = false := by
                rcases Bool.eq_false_or_eq_true (D 7) with h | h
                · have := f10 (f9 h); rw [hDi] at this; cases this
                · exact h
              have hB := fb h7
              have m0 := hB.cell 0 _ rfl
              have m1 := hB.cell 1 _ rfl
              have m2 := hB.cell 2 _ rfl
              simp [opRun, execOp, evalV, hV5, go_sem, m0, m1, m2]
              exact ⟨f0, fh, fb, ⟨fz1, fz2⟩, fun _ => rfl, f2, f3, f4, f5, f6, f7, f8, f9, fun _ => rfl⟩
            · simp at ho; subst ho
              simp [opRun, execOp, evalV, hV0, go_sem]
              exact ⟨f0, fh, fb, ⟨fz1, fz2⟩, f1, fun _ => rfl, f3, f4, f5, f6, f7, f8, f9, f10⟩
            · simp at ho; subst ho
              simp [opRun, execOp, evalV, hV6, go_sem]
              exact ⟨f0, fh, fb, ⟨fz1, fz2⟩, f1, f2, fun _ => rfl, f4, f5, f6, f7, f8, f9, f10⟩
            · simp at ho; subst ho
              simp [Region.binds] at hpre
              have e1 := f2 (by first | exact hpre | exact hpre.1 | exact hpre.2 | exact hpre.2.1 | exact hpre.2.2)
              have e2 := f3 (by first | exact hpre.2 | exact hpre.2.1 | exact hpre.2.2 | exact hpre.1 | exact hpre)
              simp [opRun, execOp, evalV, e1, e2, go_sem, hlt]
              exact ⟨f0, fh, fb, ⟨fz1, fz2⟩, f1, f2, f3, fun _ => rfl, f5, f6, f7, f8, f9, f10⟩
            · simp at ho; subst ho
              simp [Region.binds] at hpre
              have e1 := f4 (by first | exact hpre | exact hpre.1 | exact hpre.2)
              simp [opRun, execOp, evalV, e1, go_sem, k1, k2]
              exact ⟨f0, fh, fb, ⟨fz1, fz2⟩, f1, f2, f3, f4, fun _ => rfl, f6, f7, f8, f9, f10⟩
            · simp at ho; subst ho
              simp [Region.binds] at hpre
              have e1 := f5 (by first | exact hpre | exact hpre.1 | exact hpre.2)
              simp [opRun, execOp, evalV, e1, go_sem]
              refine (CW.out w').mono ?_
              rintro e w1 ⟨v, rfl, hv1, hb1⟩
              exact ⟨v, rfl, f0.step hb1, fh.below hb1, fun h => (fb h).below hb1, ⟨fz1.below hb1, fz2.below hb1⟩, f1, f2, f3, f4, f5, fun _ => hv1, fun h => (f7 h).below hb1, fun h => by obtain ⟨y1, y2, z1, z2, z3⟩ := f8 h; exact ⟨y1, y2, z1.below hb1, z2.below hb1, z3.below hb1⟩, f9, f10⟩
            · simp at ho; subst ho
              simp [Region.binds] at hpre
              have d0 : D 0 = true := by first | exact hpre.1 | exact hpre.2.1 | exact hpre
              have d5 : D 5 = true := by first | exact hpre.2 | exact hpre.2.1 | exact hpre.2.2
              have e1 := f1 d0
              have e2 := f6 d5
              obtain ⟨v37, e37⟩ : ∃ v, v = V 37 := ⟨_, rfl⟩
              rw [← e37] at e2
              simp [opRun, execOp, evalV, e1, ← e37, go_sem]
              refine (CP.out _ _ w' (FracR.of_pair fz1 fz2) e2).mono ?_
              rintro e w1 ⟨v, rfl, hv1, hb1⟩
              exact ⟨v, rfl, f0.step hb1, fh.below hb1, fun h => (fb h).below hb1, ⟨fz1.below hb1, fz2.below hb1⟩, f1, f2, f3, f4, f5, fun h => (f6 h).below hb1, fun _ => hv1, fun h => by obtain ⟨y1, y2, z1, z2, z3⟩ := f8 h; exact ⟨y1, y2, z1.below hb1, z2.below hb1, z3.below hb1⟩, fun _ => rfl, fun _ => d0⟩
            · simp at ho; subst ho
              simp [Region.binds] at hpre
              have d6 : D 6 = true := by first | exact hpre | exact hpre.1 | exact hpre.2
              obtain ⟨y1, y2, e38, z1, z2⟩ := f7 d6
              have hB := fb hDi
              obtain ⟨p3, c3, s3⟩ := z1.shape
              obtain ⟨p4, c4, s4⟩ := z2.shape
              subst s3 s4
              have m0 := hB.cell 0 _ rfl
              have m1 := hB.cell 1 _ rfl
              have m2 := hB.cell 2 _ rfl
              have m3 := hB.free 0
              have m4 := hB.free 1
              have m5 := hB.free 2
              simp [opRun, execOp, evalV, hV5, e38, go_sem, m0, m1, m2, m3, m4, m5]
              have hh := fh
              refine ⟨⟨((f0.1.setCell (by simp; omega) _).setCell (by simp; omega) _).setCell (by simp; omega) _, f0.2.set3o hne _ _ _⟩, fh.set3R hh _, fun h => by simp at h, ⟨fz1.set3R hh _, fz2.set3R hh _⟩, f1, f2, f3, f4, f5, fun h => (f6 h).set3R hh _, fun h => ?_, fun _ => ⟨_, _, hB.ofHas3 rfl _ _ _, z1.set3R hh _, z2.set3R hh _⟩, fun _ => d6, f10⟩
              rw [show V 38 = _ from e38]
              exact (FracR.of_pair z1 z2).set3R hh _
            · simp at ho
          · intro D V w' hF hall2
            obtain ⟨f0, fh, fb, fz, f1, f2, f3, f4, f5, f6, f7, f8, f9, f10⟩ := hF
            obtain ⟨y1, y2, hB2, ny1, ny2⟩ := f8 (hall2 7 (by decide))
            simp only [putAll, List.foldl_cons, List.foldl_nil, f1 (hall2 0 (by decide)), f2 (hall2 1 (by decide)), f3 (hall2 2 (by decide)), f4 (hall2 3 (by decide)), f5 (hall2 4 (by decide))]
            obtain ⟨v37, e37⟩ : ∃ v, v = V 37 := ⟨_, rfl⟩
            obtain ⟨v38, e38⟩ : ∃ v, v = V 38 := ⟨_, rfl⟩
            rw [← e37, ← e38]
            clear f1 f2 f3 f4 f5 f6 f7 f8 f9 f10 fb fz fh e37 e38 hall2 CW CP nx1 nx2 hBx hI
            simp only [Act.put, List.setIfInBounds_toArray, List.set_cons_succ, List.set_cons_zero]
            go_wp2
            go_roundw
            case rel =>
              refine ⟨k + 1, by omega, by go_num, f0, hbo, ?_, by rw [HS2.out]; exact HLEN.out⟩
              rw [HS2.out]
              exact ⟨_, _, hB2, ny1, ny2⟩
            case measure => simp [intOf]; omega
        · obtain rfl : k = l.length := by omega
          rw [List.take_length] at hS
          obtain ⟨hI, hbo, ⟨y1, y2, hBo, ny1, ny2⟩, hlm, hln, hnp⟩ := hS
          obtain ⟨p, hp⟩ : ∃ p, p = sumG l := ⟨_, rfl⟩
          rw [← hp] at hBo ny1 ny2 hlm hln hnp
          have HP := Lib.hid hp
          clear hp hlt
          obtain ⟨p1, p2, p3⟩ := p
          simp only [] at hBo ny1 ny2 hlm hln hnp
          obtain ⟨q4, r4, s4⟩ := ny1.shape
          obtain ⟨q5, r5, s5⟩ := ny2.shape
          subst s4 s5
          have z0 := hBo.cell 0 _ rfl
          have z1 := hBo.cell 1 _ rfl
          have z2 := hBo.cell 2 _ rfl
          have RT := Lib.hid (rnarrow_any _ p1 p2 p3 _ ⟨_, _, rfl, ny1, ny2⟩ (by omega) (by omega) hnp)
          clear ny1 ny2
          go_wp2_with fail
          refine RT.out.mono ?_
          rintro e w9 ⟨he, hb9⟩
          obtain ⟨x1, x2, x3, hx, he'⟩ := RatE_cases he
          subst he'
          have hI9 := hI.step hb9
          obtain ⟨k1, k2, k3, k4⟩ := hI9.cells
          clear z0 z1 z2 hI hBo hb9 RT
          go_wp2
          refine bodyPost_ret (v := .tuple #[.agg #[.int .i64 x1, .int .i64 x2], .int .i64 x3]) (by simp [results, Try.results11, go_sem, k1, k2]) rfl ⟨?_, (hI9.1.setCell (by simp) _).setCell (by simp) _⟩
          rw [← HP.out, ← hx]
          rfl

end Go.Proofs.Ytpjjbdpkhmeldaa
