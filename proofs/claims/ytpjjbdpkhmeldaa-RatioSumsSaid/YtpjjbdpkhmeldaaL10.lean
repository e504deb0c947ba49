/- the law RatioSums: the walk -/
import Derived.Test.YtpjjbdpkhmeldaaL9
import Derived.Test.YtpjjbdpkhmeldaaL1
namespace Go.Proofs.Ytpjjbdpkhmeldaa
open Go.RowKit

/-- block b is a row of ratios -/
def BlkQ (w : World) (b : Nat) (l : List (Int × Int)) : Prop := Box w b 25 (flat l)

theorem BlkQ.set {w : World} {b : Nat} {l : List (Int × Int)} (h : BlkQ w b l) (k : Nat) (x y : Int) (hk : k < l.length) : BlkQ ((w.setCell ⟨b, k * 2, none⟩ (.int .i64 x)).setCell ⟨b, k * 2 + 1, none⟩ (.int .i64 y)) b (l.set k (x, y)) := by
  unfold BlkQ at h ⊢
  have := (Box.set h (k * 2) (.int .i64 x)).set (k * 2 + 1) (.int .i64 y)
  rw [flat_set l k x y hk] at this
  exact this

theorem BlkQ.cells {w : World} {b : Nat} {l : List (Int × Int)} (h : BlkQ w b l) (k : Nat) (hk : k < l.length) : w.cell? ⟨b, k * 2, none⟩ = some (.int .i64 l[k].1) ∧ w.cell? ⟨b, k * 2 + 1, none⟩ = some (.int .i64 l[k].2) ∧ w.frozen? ⟨b, k * 2, none⟩ = false ∧ w.frozen? ⟨b, k * 2 + 1, none⟩ = false :=
  ⟨Box.cell h _ _ (flat_get l k hk).1, Box.cell h _ _ (flat_get l k hk).2, Box.free h _, Box.free h _⟩

theorem BlkQ.ratL {w : World} {b : Nat} {l : List (Int × Int)} (h : BlkQ w b l) (hi : ∀ p ∈ l, I64 p.1 ∧ I64 p.2) : RatL w (some ⟨b, 0, none⟩) l := by
  intro i hl
  obtain ⟨h1, h2, _, _⟩ := h.cells i hl
  obtain ⟨i1, i2⟩ := hi _ (List.getElem_mem hl)
  exact ⟨b, 0, rfl, Box.lt h, by rw [Nat.zero_add]; exact h1, by rw [Nat.zero_add]; exact h2, i1, i2⟩

theorem ratio_type : (Try.prog.info? 25).map (fun i => (i.zero, i.size, i.bytes)) = some (some (Value.agg #[.int .i64 0, .int .i64 0]), 2, 16) := by kernel_rfl

/-- 'make([]api.Ratio, n)' -/
theorem wpList_make_ratios (w : World) {ops : Array Oper} {rest : List Oper} {o : Oper} {a : Act} {Q : Exit → Act → World → Prop}
    (hg : o.guard = none) (l c : Operand) (hop : o.op = Op.makeSlice 22 l c)
    (kl kc : IntKind) (L C : Int) (n : Nat) (hl : a.eval l = .int kl L) (hc : a.eval c = .int kc C) (hL : L = (n : Int)) (hC : C = (n : Int)) (b2 : n ≤ 1000000)
    (hK : ∀ w', BlkQ w' w.heap.size (List.replicate n (0, 0)) → Below w.heap.size w w' → w'.heap.size = w.heap.size + 1 → wpList Try.prog ops Q rest (a.put o.dst (.slice (some ⟨w.heap.size, 0, none⟩) n n)) w') :
    wpList Try.prog ops Q (o :: rest) a w := by
  obtain ⟨i, hi, hz0, hz1, hz2⟩ := info_parts ratio_type
  refine wpList_plain hg fun K hK' => ?_
  subst hL hC
  have hb' : (i.bytes : Int) * (n : Int) ≤ 281474976710656 := by rw [hz2]; omega
  have hrun := run_make (P := Try.prog) w 22 25 i _ Try.underlying22 hi hz0 kl kc n n (by omega) (Int.le_refl _) hb' (by omega)
  simp only [Int.toNat_natCast, hz1] at hrun
  unfold Oper.wp
  simp [execOp, hop, hl, hc, hrun, Result.andThen]
  refine hK' _ _ (hK _ ?_ ((Below.refl _ _).alloc (Nat.le_refl _) _) (by simp))
  unfold BlkQ Box
  rw [flat_zero]
  exact heap_alloc_new _ _

/-- turned round, so far -/
def RevP (l o : List (Int × Int)) (k : Nat) : Prop := o.length = l.length ∧ ∀ j (h : j < l.length), (l.length - 1 - j < k → o[j]? = some l[l.length - 1 - j])

theorem RevP.fin {l o : List (Int × Int)} (h : RevP l o l.length) : o = l.reverse := by
  obtain ⟨h1, h2⟩ := h
  apply List.ext_getElem?
  intro j
  by_cases hj : j < l.length
  · rw [h2 j hj (by omega), List.getElem?_reverse hj, List.getElem?_eq_getElem (by omega)]
  · rw [List.getElem?_eq_none (by omega), List.getElem?_eq_none (by rw [List.length_reverse]; omega)]

theorem RevP.step {l o : List (Int × Int)} {k : Nat} (h : RevP l o k) (hk : k < l.length) : RevP l (o.set (l.length - 1 - k) l[k]) (k + 1) := by
  obtain ⟨h1, h2⟩ := h
  refine ⟨by rw [List.length_set]; exact h1, ?_⟩
  intro j hj hlt
  by_cases e : j = l.length - 1 - k
  · subst e
    rw [List.getElem?_set_self (by omega)]
    congr 2
    omega
  · rw [List.getElem?_set_ne (by omega)]
    exact h2 j hj (by omega)

/-- what the law keeps: the box of the sum, and the list -/
def SmS (w : World) (bx : Nat) (x1 x2 : Int) (w' : World) : Prop := Below w.heap.size w w' ∧ Box w' bx 25 [.int .i64 x1, .int .i64 x2]
theorem SmS.step {w : World} {bx : Nat} {x1 x2 : Int} {w1 w2 : World} (hb : Below w1.heap.size w1 w2) (h : SmS w bx x1 x2 w1) : SmS w bx x1 x2 w2 := ⟨h.1.trans (hb.mono h.1.size), h.2.below hb⟩

/-- the region of a round -/
def ChF (w : World) (bx : Nat) (x1 x2 : Int) (bs : Nat) (s1 s2 : Int) (a : Option Addr) (L cap k : Nat) (b off : Nat) (rn rd : Int) (y1 y2 y3 : Int) (D : Nat → Bool) (V : Nat → Value) (w' : World) : Prop :=
  SmS w bx x1 x2 w' ∧ Box w' bs 25 [.int .i64 s1, .int .i64 s2] ∧
  (D 0 = true → V 80 = .agg #[.int .i64 s1, .int .i64 s2]) ∧ (D 1 = true → V 81 = .slice a L cap) ∧ (D 2 = true → V 82 = .int .i64 k) ∧ (D 3 = true → V 83 = .pointer (some ⟨b, off + k * 2, none⟩)) ∧
  (D 4 = true → V 84 = .agg #[.int .i64 rn, .int .i64 rd]) ∧ (D 5 = true → V 85 = .tuple #[.agg #[.int .i64 y1, .int .i64 y2], .int .i64 y3]) ∧ (D 6 = true → V 79 = .tuple #[.agg #[.int .i64 y1, .int .i64 y2], .int .i64 y3]) ∧
  (D 7 = true → V 86 = .agg #[.int .i64 y1, .int .i64 y2]) ∧ (D 8 = true → V 87 = .int .i64 y3) ∧
  (D 9 = true → ∃ bn u v, V 13 = .pointer (some ⟨bn, 0, none⟩) ∧ bs ≠ bn ∧ bx ≠ bn ∧ w.heap.size ≤ bn ∧ Box w' bn 25 [u, v] ∧ (D 10 = true → u = .int .i64 y1 ∧ v = .int .i64 y2)) ∧
  (D 11 = true → V 14 = .int .i64 y3) ∧ (D 10 = true → D 9 = true)

set_option maxHeartbeats 1000000 in
theorem sums_long (a : Option Addr) (L cap : Nat) (w : World) (hl : 20 < L) (hL : L ≤ 9223372036854775807) :
    Calls Try.prog 3 #[.slice a L cap] w fun e w' => e = .returned (.bool true) ∧ Below w.heap.size w w' := by
  have CA := Lib.hid (fun wx => awake_any wx)
  have hg : decide ((20 : Int) < (L : Int)) = true := by simp; omega
  go_enter Try.func3, Try.ntmps3
  go_wp2_with fail
  (with_reducible refine (CA.out _).mono ?_)
  rintro e w1 ⟨rfl, hbx⟩
  go_wp2
  go_ret
  exact ⟨rfl, hbx⟩

set_option maxRecDepth 100000 in
set_option maxHeartbeats 8000000 in
theorem sums_ok (a : Option Addr) (cap : Nat) (l : List (Int × Int)) (w : World) (hl : l.length ≤ 20) (hr : RatL w a l) :
    Calls Try.prog 3 #[.slice a l.length cap] w fun e w' => e = .returned (.bool true) ∧ Below w.heap.size w w' := by
  have CA := Lib.hid (fun wx => awake_any wx)
  have hg : decide ((20 : Int) < (l.length : Int)) = false := by simp; omega
  have C1 := Lib.hid (fun wx h => sum_ratio a cap l wx hl h)
  have C2 := Lib.hid (fun wx h => show Calls Try.prog 11 #[.slice a l.length cap] wx fun e w' => e = RatE (sumS l) ∧ Below wx.heap.size wx w' from by
    rcases Bool.eq_false_or_eq_true (allV l) with hv | hv
    · have e : sumS l = ratioS (sumG l).1 (sumG l).2.1 (sumG l).2.2 := by rw [sumS_R hv, sumG_R hv]
      rw [e]; exact rsum_ok a cap l wx hl h hv
    · have e : sumS l = (0, 0, 1) := by unfold sumS; rw [hv]; rfl
      rw [e]; exact rsum_err a cap l wx hl h hv)
  have C3 := Lib.hid (fun (b n : Nat) (o : List (Int × Int)) (hn : n = o.length) (wx : World) (ho : o = l.reverse) (h : RatL wx (some ⟨b, 0, none⟩) o) => show Calls Try.prog 10 #[.slice (some ⟨b, 0, none⟩) n n] wx fun e w' => e = RatE (sumS l) ∧ Below wx.heap.size wx w' from by
    subst hn
    have := sum_ratio (some ⟨b, 0, none⟩) o.length o wx (by rw [ho, List.length_reverse]; exact hl) h
    rw [show sumS o = sumS l from by rw [ho, sumS_reverse]] at this
    exact this)
  have HC : Hid (∀ s1 s2, Chain l s1 s2 l.length → sumS l = (s1, s2, 0)) := Lib.hid (fun s1 s2 h => h.fin)
  obtain ⟨⟨x1, x2, x3⟩, hx⟩ : ∃ x, x = sumS l := ⟨_, rfl⟩
  rw [← hx] at C1 C2 HC
  have C3' : Hid (∀ (b n : Nat) (o : List (Int × Int)) (_ : n = o.length) (wx : World) (_ : o = l.reverse) (_ : RatL wx (some ⟨b, 0, none⟩) o), Calls Try.prog 10 #[.slice (some ⟨b, 0, none⟩) n n] wx fun e w' => e = RatE (x1, x2, x3) ∧ Below wx.heap.size wx w') := Lib.hid (by
    intro b n o hn wx ho h
    rw [hx]; exact C3.out b n o hn wx ho h)
  clear hx C3
  unfold RatE at C1 C2 C3'
  simp only [] at C1 C2 C3'
  have hi64 : ∀ i (h : i < l.length), I64 l[i].1 ∧ I64 l[i].2 := fun i h => by
    obtain ⟨_, _, _, _, _, _, h1, h2⟩ := hr i h
    exact ⟨h1, h2⟩
  have HI := Lib.hid hi64
  have HRL := Lib.hid hr
  clear hi64
  go_enter Try.func3, Try.ntmps3
  go_wp2_with fail
  (with_reducible refine (CA.out _).mono ?_)
  rintro e w1 ⟨rfl, hbx⟩
  clear CA
  go_wp2_with fail
  (with_reducible refine (C1.out _ (HRL.out.below hbx)).mono ?_)
  rintro e w2 ⟨rfl, hb2⟩
  have hb3 := hbx.trans (hb2.mono hbx.size)
  clear hbx hb2 C1
  have hX := Box.made w2 25 [.int .i64 x1, .int .i64 x2]
  have hbA := hb3.alloc hb3.size (Obj.cells #[.int .i64 x1, .int .i64 x2] 25)
  clear hb3
  go_wp2_with fail
  (with_reducible refine (C2.out _ (HRL.out.below hbA)).mono ?_)
  rintro e w3 ⟨rfl, hb3⟩
  have hS : SmS w w2.heap.size x1 x2 w3 := ⟨hbA.trans (hb3.mono hbA.size), hX.below hb3⟩
  clear hX hbA hb3 C2
  have hyx := hS.2.lt
  have hwl := hS.1.size
  have hY := Box.made w3 25 [.int .i64 x1, .int .i64 x2]
  have hbY : Below w3.heap.size w3 (w3.alloc (Obj.cells #[.int .i64 x1, .int .i64 x2] 25)) := (Below.refl _ _).alloc (Nat.le_refl _) _
  replace hS := hS.step hbY
  clear hbY
  go_wp2_with (first
    | (at_make; refine wpList_make_ratios _ rfl (.tmp 31) (.tmp 31) rfl .i64 .i64 _ _ l.length rfl rfl rfl rfl (by omega) ?_; intro w4 hB4 hb4 hs4))
  replace hS := hS.step hb4
  replace hY := hY.below hb4
  rw [alloc_size] at hB4
  clear hb4 hs4
  obtain ⟨bx, hbx⟩ : ∃ b, b = w2.heap.size := ⟨_, rfl⟩
  obtain ⟨bY, hbY⟩ : ∃ b, b = w3.heap.size := ⟨_, rfl⟩
  rw [← hbx] at hS hyx
  rw [← hbY] at hY hyx hwl
  obtain ⟨bk, hbk⟩ : ∃ b, b = bY + 1 := ⟨_, rfl⟩
  rw [← hbY, ← hbk] at hB4
  rw [← hbx, ← hbY, ← hbk]
  have hky : bY < bk := by omega
  clear hbx hbY hbk
  go_loopw [35] (fun s35 wr => ∃ (k : Nat) (o : List (Int × Int)), k ≤ l.length ∧ s35 = .int .i64 k ∧ Hid (RevP l o k) ∧ BlkQ wr bk o ∧ SmS w bx x1 x2 wr ∧ Box wr bY 25 [.int .i64 x1, .int .i64 x2]) (fun s35 _ => l.length - (intOf s35).toNat)
  case atStart => exact ⟨0, _, by omega, rfl, Lib.hid ⟨by simp, fun j hj h => by omega⟩, hB4, hS, hY⟩
  case round =>
    obtain ⟨k, o, hk, rfl, HR, hB, hS1, hY1⟩ := hrel
    clear hB4 hS hY
    by_cases hlt : k < l.length
    · obtain ⟨b, off, rfl, hb, hc1, hc2, hi1, hi2⟩ := hr k hlt
      rw [← hS1.1.cell (p := ⟨b, off + k * 2, none⟩) hb] at hc1
      rw [← hS1.1.cell (p := ⟨b, off + k * 2 + 1, none⟩) hb] at hc2
      have HR2 := Lib.hid (HR.out.step hlt)
      obtain ⟨j, hj⟩ : ∃ j, j = l.length - 1 - k := ⟨_, rfl⟩
      have hjo : j < o.length := by rw [hj, HR.out.1]; omega
      obtain ⟨p, hp⟩ : ∃ p, p = l[k] := ⟨_, rfl⟩
      rw [← hp] at hc1 hc2 HR2
      rw [← hj] at HR2
      clear hp
      obtain ⟨n, d⟩ := p
      simp only [] at hc1 hc2
      obtain ⟨c1, c2, f1, f2⟩ := hB.cells j hjo
      have hB2 := hB.set j n d hjo
      have hix : ((l.length : Int) - 1 - (k : Int)) = (j : Int) := by omega
      have hjl : j < l.length := by omega
      have HJ := Lib.hid hj
      clear hj HR
      go_wp2
      go_roundw
      case rel =>
        refine ⟨k + 1, o.set j (n, d), by omega, by go_num, HR2, hB2, ⟨(hS1.1.setCell (by simp; omega) _).setCell (by simp; omega) _, (hS1.2.other (by omega) _ _).other (by omega) _ _⟩, (hY1.other (by omega) _ _).other (by omega) _ _⟩
      case measure => simp [intOf]; omega
    · obtain rfl : k = l.length := by omega
      have ho := HR.out.fin
      have hlo := HR.out.1
      have hro : ∀ p ∈ o, I64 p.1 ∧ I64 p.2 := by
        intro p hp
        rw [ho, List.mem_reverse] at hp
        obtain ⟨i, hi, rfl⟩ := List.getElem_of_mem hp
        exact HI.out i hi
      have CB := Lib.hid (C3'.out bk l.length o hlo.symm wr ho (hB.ratL hro))
      clear C3' hlo ho hro HR HI hlt
      go_wp2_with fail
      (with_reducible refine CB.out.mono ?_)
      rintro e w5 ⟨rfl, hb5⟩
      clear CB hB
      replace hS1 := hS1.step hb5
      replace hY1 := hY1.below hb5
      have hU := Box.made w5 25 [.int .i64 x1, .int .i64 x2]
      have hbA : Below w5.heap.size w5 (w5.alloc (Obj.cells #[.int .i64 x1, .int .i64 x2] 25)) := (Below.refl _ _).alloc (Nat.le_refl _) _
      replace hS1 := hS1.step hbA
      replace hY1 := hY1.below hbA
      clear hbA hb5
      have q1 := hS1.2.cell 0 _ rfl
      have q2 := hS1.2.cell 1 _ rfl
      have q3 := hY1.cell 0 _ rfl
      have q4 := hY1.cell 1 _ rfl
      have q5 := hU.cell 0 _ rfl
      have q6 := hU.cell 1 _ rfl
      have hs0 := Box.made (w5.alloc (Obj.cells #[.int .i64 x1, .int .i64 x2] 25)) 25 [.int .i64 0, .int .i64 1]
      have hbA : Below (w5.alloc (Obj.cells #[.int .i64 x1, .int .i64 x2] 25)).heap.size (w5.alloc (Obj.cells #[.int .i64 x1, .int .i64 x2] 25)) ((w5.alloc (Obj.cells #[.int .i64 x1, .int .i64 x2] 25)).alloc (Obj.cells #[.int .i64 0, .int .i64 1] 25)) := (Below.refl _ _).alloc (Nat.le_refl _) _
      have hsz := hS1.2.lt
      have hwz := hS1.1.size
      replace hS1 := hS1.step hbA
      rw [alloc_size] at hs0 hsz hwz
      clear hbA hY1 hU
      go_wp2
      clear q1 q2 q3 q4 q5 q6
      obtain ⟨bs, hbs⟩ : ∃ b, b = w5.heap.size + 1 := ⟨_, rfl⟩
      rw [← hbs] at hs0 hsz hwz
      rw [← hbs]
      clear hbs
      go_loopw [76] (fun s76 wr => ∃ (k : Nat) (s1 s2 : Int), k ≤ l.length ∧ s76 = .int .i64 k ∧ Hid (Chain l s1 s2 k) ∧ SmS w bx x1 x2 wr ∧ Box wr bs 25 [.int .i64 s1, .int .i64 s2]) (fun s76 _ => l.length - (intOf s76).toNat)
      case atStart => exact ⟨0, 0, 1, by omega, rfl, Lib.hid (Chain.start l), hS1, hs0⟩
      case round =>
        obtain ⟨k, s1, s2, hk, rfl, HCH, hS2, hBs⟩ := hrel
        clear hS1 hs0
        by_cases hlt : k < l.length
        · obtain ⟨b, off, rfl, hb, hc1, hc2, hi1, hi2⟩ := hr k hlt
          obtain ⟨v1, v2, v3, v4, v5⟩ := validB_true HCH.out.2.1
          have CADD := Lib.hid (fun wx => add_ratio s1 s2 l[k].1 l[k].2 wx ⟨by omega, by omega⟩ ⟨by omega, by omega⟩ hi1 hi2)
          clear v1 v2 v3 v4 v5
          obtain ⟨⟨y1, y2, y3⟩, hy⟩ : ∃ y, y = addS s1 s2 l[k].1 l[k].2 := ⟨_, rfl⟩
          have HNX : Hid (y3 = 0 → Chain l y1 y2 (k + 1)) := Lib.hid (HCH.out.step hlt y1 y2 y3 hy)
          rw [← hy] at CADD
          clear hy
          obtain ⟨p, hp⟩ : ∃ p, p = l[k] := ⟨_, rfl⟩
          rw [← hp] at hc1 hc2 CADD
          clear hp hi1 hi2
          obtain ⟨n, d⟩ := p
          simp only [] at hc1 hc2 CADD
          unfold RatE at CADD
          simp only [] at CADD
          have hne : bx ≠ bs := by omega
          go_upto_region 20 with fail
          refine wp_region_V (by kernel_rfl) [80, 81, 82, 83, 84, 85, 79, 86, 87, 13, 14] (by kernel_rfl) (by intro s hs; simp at hs ⊢; omega) (ChF w bx x1 x2 bs s1 s2 (some ⟨b, off, none⟩) l.length cap k b off n d y1 y2 y3) ?_ ?_ ?_
          · have hbd := fun (wq : World) => (Below.refl wq.heap.size wq).drew
            exact ⟨hS2.step (hbd _), hBs.below (hbd _), by simp, by simp, by simp, by simp, by simp, by simp, by simp, by simp, by simp, by simp, by simp, by simp⟩
          · intro i o D V w' ho hF hDi hpre hV
            obtain ⟨f0, fs, f1, f2, f3, f4, f5, f6, f7, f8, f9, f10, f11, f12⟩ := hF
            have hV0 := hV 0 (by simp)
            have hV11 := hV 11 (by simp)
            have hV12 := hV 12 (by simp)
            simp at hV0 hV11 hV12
            have k1 := (f0.1.cell (p := ⟨b, off + k * 2, none⟩) hb).trans hc1
            have k2 := (f0.1.cell (p := ⟨b, off + k * 2 + 1, none⟩) hb).trans hc2
            have k3 := fs.cell 0 _ rfl
            have k4 := fs.cell 1 _ rfl
            rcases i with _ | _ | _ | _ | _ | _ | _ | _ | _ | _ | _ | _ | i
            · simp at ho; subst ho
              simp [opRun, execOp, evalV, hV11, go_sem, k3, k4]
              exact ⟨f0, fs, fun _ => rfl, f2, f3, f4, f5, f6, f7, f8, f9, f10, f11, f12⟩
            · simp at ho; subst ho
              simp [opRun, execOp, evalV, hV0, go_sem]
              exact ⟨f0, fs, f1, fun _ => rfl, f3, f4, f5, f6, f7, f8, f9, f10, f11, f12⟩
            · simp at ho; subst ho
              simp [opRun, execOp, evalV, hV12, go_sem]
              exact ⟨f0, fs, f1, f2, fun _ => rfl, f4, f5, f6, f7, f8, f9, f10, f11, f12⟩
            · simp at ho; subst ho
              simp [Region.binds] at hpre
              have e1 := f2 (by first | exact hpre | exact hpre.1 | exact hpre.2 | exact hpre.2.1 | exact hpre.2.2)
              have e2 := f3 (by first | exact hpre.2 | exact hpre.2.1 | exact hpre.2.2 | exact hpre.1 | exact hpre)
              simp [opRun, execOp, evalV, e1, e2, go_sem, hlt]
              exact ⟨f0, fs, f1, f2, f3, fun _ => rfl, f5, f6, f7, f8, f9, f10, f11, f12⟩
            · simp at ho; subst ho
              simp [Region.binds] at hpre
              have e1 := f4 (by first | exact hpre | exact hpre.1 | exact hpre.2)
              simp [opRun, execOp, evalV, e1, go_sem, k1, k2]
              exact ⟨f0, fs, f1, f2, f3, f4, fun _ => rfl, f6, f7, f8, f9, f10, f11, f12⟩
            · simp at ho; subst ho
              simp [Region.binds] at hpre
              have e1 := f1 (by first | exact hpre.1 | exact hpre.2.1 | exact hpre)
              have e2 := f5 (by first | exact hpre.2 | exact hpre.2.1 | exact hpre.2.2)
              simp [opRun, execOp, evalV, e1, e2, go_sem]
              refine (CADD.out w').mono ?_
              rintro e w1 ⟨rfl, hb1⟩
              exact ⟨_, rfl, f0.step hb1, fs.below hb1, f1, f2, f3, f4, f5, fun _ => rfl, f7, f8, f9, fun h => by obtain ⟨bn, u, v, z1, z2, z3, z4, z5, z6⟩ := f10 h; exact ⟨bn, u, v, z1, z2, z3, z4, z5.below hb1, z6⟩, f11, f12⟩
            · simp at ho; subst ho
              simp [Region.binds] at hpre
              have e1 := f6 (by first | exact hpre | exact hpre.1 | exact hpre.2)
              simp [opRun, execOp, evalV, e1, go_sem]
              exact ⟨f0, fs, f1, f2, f3, f4, f5, f6, fun _ => rfl, f8, f9, f10, f11, f12⟩
            · simp at ho; subst ho
              simp [Region.binds] at hpre
              have e1 := f7 (by first | exact hpre | exact hpre.1 | exact hpre.2)
              simp [opRun, execOp, evalV, e1, go_sem]
              exact ⟨f0, fs, f1, f2, f3, f4, f5, f6, f7, fun _ => rfl, f9, f10, f11, f12⟩
            · simp at ho; subst ho
              simp [Region.binds] at hpre
              have e1 := f7 (by first | exact hpre | exact hpre.1 | exact hpre.2)
              simp [opRun, execOp, evalV, e1, go_sem]
              exact ⟨f0, fs, f1, f2, f3, f4, f5, f6, f7, f8, fun _ => rfl, f10, f11, f12⟩
            · simp at ho; subst ho
              have h10 : D 10 = true → False := fun h => by have := f12 h; rw [hDi] at this; cases this
              have hlt1 := fs.lt
              have hlt2 := f0.2.lt
              simp [opRun, execOp, go_sem]
              exact ⟨f0.step ((Below.refl _ _).alloc (Nat.le_refl _) _), fs.alloc _, f1, f2, f3, f4, f5, f6, f7, f8, f9, fun _ => ⟨w'.heap.size, _, _, rfl, by omega, by omega, f0.1.size, Box.made w' 25 _, fun h => (h10 h).elim⟩, f11, fun _ => rfl⟩
            · simp at ho; subst ho
              simp [Region.binds] at hpre
              have d9 : D 9 = true := by first | exact hpre | exact hpre.1 | exact hpre.2 | exact hpre.2.1 | exact hpre.2.2
              have d7 : D 7 = true := by first | exact hpre | exact hpre.2 | exact hpre.1 | exact hpre.2.2 | exact hpre.2.1
              obtain ⟨bn, u, v, z1, z2, z3, z4, z5, z6⟩ := f10 d9
              have e2 := f8 d7
              have m0 := z5.cell 0 _ rfl
              have m1 := z5.cell 1 _ rfl
              have m3 := z5.free 0
              have m4 := z5.free 1
              simp [opRun, execOp, evalV, z1, e2, go_sem, m0, m1, m3, m4]
              exact ⟨⟨(f0.1.setCell (by simp; omega) _).setCell (by simp; omega) _, (f0.2.other z3 _ _).other z3 _ _⟩, (fs.other z2 _ _).other z2 _ _, f1, f2, f3, f4, f5, f6, f7, f8, f9, fun _ => ⟨bn, _, _, z1, z2, z3, z4, (z5.set 0 _).set 1 _, fun _ => ⟨rfl, rfl⟩⟩, f11, fun _ => d9⟩
            · simp at ho; subst ho
              simp [Region.binds] at hpre
              have e1 := f9 (by first | exact hpre | exact hpre.1 | exact hpre.2)
              simp [opRun, execOp, evalV, e1, go_sem]
              exact ⟨f0, fs, f1, f2, f3, f4, f5, f6, f7, f8, f9, f10, fun _ => rfl, f12⟩
            · simp at ho
          · intro D V w' hF hall2
            obtain ⟨f0, fs, f1, f2, f3, f4, f5, f6, f7, f8, f9, f10, f11, f12⟩ := hF
            obtain ⟨bn, u, v, z1, z2, z3, z4, z5, z6⟩ := f10 (hall2 9 (by decide))
            obtain ⟨rfl, rfl⟩ := z6 (hall2 10 (by decide))
            simp only [putAll, List.foldl_cons, List.foldl_nil, f1 (hall2 0 (by decide)), f2 (hall2 1 (by decide)), f3 (hall2 2 (by decide)), f4 (hall2 3 (by decide)), f5 (hall2 4 (by decide)), f6 (hall2 5 (by decide)), f7 (hall2 6 (by decide)), f8 (hall2 7 (by decide)), f9 (hall2 8 (by decide)), z1, f11 (hall2 11 (by decide))]
            clear f1 f2 f3 f4 f5 f6 f7 f8 f9 f10 f11 f12 z6 z1 hall2 CADD hS2 hBs
            simp only [Act.put, List.setIfInBounds_toArray, List.set_cons_succ, List.set_cons_zero]
            have k1 := z5.cell 0 _ rfl
            have k2 := z5.cell 1 _ rfl
            have k3 := fs.cell 0 _ rfl
            have k4 := fs.cell 1 _ rfl
            have k5 := fs.free 0
            have k6 := fs.free 1
            have hB2 := (fs.set 0 (.int .i64 y1)).set 1 (.int .i64 y2)
            by_cases h3 : y3 = 0
            · have HN := Lib.hid (HNX.out h3)
              subst h3
              clear HNX
              go_wp2
              go_roundw
              case rel =>
                exact ⟨k + 1, y1, y2, by omega, by go_num, HN, ⟨(f0.1.setCell (by simp; omega) _).setCell (by simp; omega) _, (f0.2.other hne _ _).other hne _ _⟩, hB2⟩
              case measure => simp [intOf]; omega
            · have h4 : (y3 != 0) = true := by simpa using h3
              have h5 : (y3 == 0) = false := by simpa using h3
              clear HNX
              go_wp2
              try rw [Exit.noGoto_ret]
              go_ret
              exact ⟨rfl, f0.1⟩
        · obtain rfl : k = l.length := by omega
          have hfin := HC.out s1 s2 HCH.out
          simp only [Prod.mk.injEq] at hfin
          obtain ⟨e1, e2, e3⟩ := hfin
          subst e1 e2 e3
          have k1 := hBs.cell 0 _ rfl
          have k2 := hBs.cell 1 _ rfl
          have k3 := hS2.2.cell 0 _ rfl
          have k4 := hS2.2.cell 1 _ rfl
          clear HC HCH hlt
          go_wp2
          go_ret
          exact ⟨rfl, hS2.1⟩


end Go.Proofs.Ytpjjbdpkhmeldaa
