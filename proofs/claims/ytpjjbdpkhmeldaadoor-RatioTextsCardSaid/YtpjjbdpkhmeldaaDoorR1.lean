/- contracts of the reference's trim, nat, natCmp, natAdd -/
import Derived.Test.YtpjjbdpkhmeldaaDoorB8
namespace Go.Proofs.YtpjjbdpkhmeldaaDoor
open Go.RowKit

def R15 : Nat := 32768
theorem R15_ge : 2 ≤ R15 := by unfold R15; omega
theorem digs_ltR (n : Nat) (d : Nat) (h : d ∈ digs R15 n) : d < 32768 := digs_lt R15 R15_ge n d h

/-- a slice of the call's own that holds the digits ds -/
def OwnN (w : World) (base : Nat) (v : Value) (ds : List Nat) : Prop := w.ownsRow base 3 1 v ds.length (ds.map fun (d : Nat) => Value.int .i64 (d : Int))

theorem OwnN.nil (w : World) (base : Nat) : OwnN w base (.slice none 0 0) [] := World.ownsRow_nil w base 3 1

theorem OwnN.rd {w : World} {base : Nat} {v : Value} {ds : List Nat} (h : OwnN w base v ds) : ∃ a cap, v = .slice a ds.length cap ∧ ds.length ≤ cap ∧ RdN w .i64 a ds := by
  obtain ⟨h1, h2⟩ := h
  rcases h2 with ⟨hv, hn⟩ | ⟨g, cap, cur, hv, _, hg, hnc, _, _, htake⟩
  · refine ⟨none, 0, by rw [hv, hn], by omega, ?_⟩
    intro i hi; omega
  · refine ⟨some ⟨g, 0, none⟩, cap, hv, hnc, ?_⟩
    intro i hi
    refine ⟨g, 0, rfl, (Array.getElem?_eq_some_iff.1 hg).1, ?_⟩
    have hlt : g < w.heap.size := (Array.getElem?_eq_some_iff.1 hg).1
    rw [Nat.zero_add, cell_of_row w g i cur 3 (0, 0) hg]
    have : (cur.toList.take (ds.length * 1))[i]? = some (.int .i64 (ds[i] : Int)) := by rw [htake]; simp [hi]
    rw [List.getElem?_take, if_pos (by omega)] at this
    simpa using this

theorem int_type : (Tryd.prog.info? 3).map (fun i => (i.zero, i.size, i.bytes)) = some (some (Value.int .i64 0), 1, 8) := by kernel_rfl

/-- 'out = append(out, d)' -/
theorem wpList_append_dig {w : World} {ops : Array Oper} {rest : List Oper} {o : Oper} {a : Act} {Q : Exit → Act → World → Prop} (hgd : o.guard = none) (s x : Operand)
    (ho : o.op = .call { callee := .builtin .append, args := #[s, x], argTypes := #[52, 52] }) (base : Nat) (v : Value) (ds : List Nat) (hs : a.eval s = v) (z : Int) (d : Nat) (hz : z = (d : Int)) (w0 : World)
    (hw : w = w0.alloc (Obj.cells #[.int .i64 z] 3)) (hx : a.eval x = .slice (some ⟨w0.heap.size, 0, none⟩) 1 1) (hown : OwnN w0 base v ds) (hb : base ≤ w0.heap.size) (hl : ds.length ≤ 1000000)
    (hK : ∀ v' w', OwnN w' base v' (ds ++ [d]) → Below base w0 w' → wpList Tryd.prog ops Q rest (a.put o.dst v') w') : wpList Tryd.prog ops Q (o :: rest) a w := by
  obtain ⟨i0, hi, hz0, hz1, hz2⟩ := info_parts int_type
  subst hw hz
  refine wpList_append_own _ hgd s x 52 ho base 3 i0 (.int .i64 0) 1 8 Tryd.underlying52 hi hz0 hz1 hz2 rfl (by decide) v ds.length _ hs (World.ownsRow.alloc hown _) ⟨w0.heap.size, 0, none⟩ 1 1 [.int .i64 (d : Int)] hx rfl ?_ ?_ (by unfold maxLen; omega) (by omega) (by rw [alloc_size]; omega) ?_
  · intro j u hj
    match j, hj with
    | 0, hj =>
      simp at hj
      subst hj
      simp [Addr.add]
  · intro u hu
    simp at hu; subst hu; rfl
  · intro v' w' h1 h2 _
    have hB : Below base w0 (w0.alloc (Obj.cells #[.int .i64 (d : Int)] 3)) := ((Below.refl _ _).alloc (Nat.le_refl _) _).mono hb
    refine hK v' w' ?_ (hB.grown h2 (by rw [alloc_size]; omega) ?_)
    · unfold OwnN
      rw [List.length_append, List.map_append]
      exact h1
    · intro k hk
      exact (World.ownsRow.lt hown k hk).1

/-- trim, of a list of digits -/
theorem rtrim_ds (a : Option Addr) (cap : Nat) (zs : List Nat) (w : World) (hl : zs.length ≤ 1000000) (hcap : zs.length ≤ cap) (h : RdN w .i64 a zs) :
    Calls Tryd.prog 43 #[.slice a zs.length cap] w fun e w' => e = .returned (.slice a (trimN zs).length cap) ∧ w = w' := by
  go_enter Tryd.func43, Tryd.ntmps43
  go_wp2
  go_loop [3] (fun s3 => ∃ n : Nat, n ≤ zs.length ∧ s3 = .int .i64 n ∧ trimN zs = trimN (zs.take n)) (fun s3 => (intOf s3).toNat)
  case atStart => exact ⟨zs.length, by omega, rfl, by simp⟩
  case round =>
    obtain ⟨n, hn, rfl, ht⟩ := hrel
    have Ht := Lib.hid ht; clear ht
    by_cases h0 : 0 < n
    · obtain ⟨m, rfl⟩ : ∃ m, n = m + 1 := ⟨n - 1, by omega⟩
      obtain ⟨b, off, rfl, hb, hc⟩ := h m (by omega)
      clear h0
      obtain ⟨z, hz⟩ : ∃ z, z = zs[m] := ⟨_, rfl⟩
      rw [← hz] at hc
      have Hz := Lib.hid hz; clear hz
      have hm1 : IntKind.i64.wrap (((m + 1 : Nat) : Int) - 1) = (m : Int) := by rw [IntWalk.i64_in _ (by omega)]; omega
      by_cases hz : z = 0
      · subst hz
        go_wp2
        go_round
        case rel => exact ⟨m, by omega, by go_num, by rw [Ht.out, List.take_succ_eq_append_getElem (by omega), ← Hz.out, trimN_append_zero]⟩
        case measure => simp [intOf]
      · have hz' : ((z : Int) == 0) = false := by simpa using hz
        go_wp2
        go_ret
        refine ⟨?_, rfl⟩
        rw [Ht.out, List.take_succ_eq_append_getElem (by omega), ← Hz.out, trimN_append_pos _ _ hz]
        simp [Nat.min_eq_left (show m ≤ zs.length by omega)]
    · obtain rfl : n = 0 := by omega
      go_wp2
      go_ret
      refine ⟨?_, rfl⟩
      rw [Ht.out]; simp [trimN_nil]

/-- digits, the least one first, taken one by one -/
theorem digs_snoc_step (B n : Nat) (hB : 2 ≤ B) (hn : 0 < n) (l : List Nat) (m : Nat) (h : l ++ digs B n = digs B m) : (l ++ [n % B]) ++ digs B (n / B) = digs B m := by
  rw [← h, digs_pos B n hB hn, List.append_assoc]; rfl

set_option maxHeartbeats 400000 in
theorem rnat_any (n : Nat) (w : World) (h : n < 18446744073709551616) :
    Calls Tryd.prog 62 #[.int .u64 n] w fun e w' => ∃ v, e = .returned v ∧ NatV w' .i64 R15 v n ∧ Below w.heap.size w w' := by
  have hlen : (digs R15 n).length ≤ 5 := digs_length_le R15 R15_ge _ 5 (by unfold R15; omega)
  have HL := Lib.hid hlen
  clear hlen
  go_enter Tryd.func62, Tryd.ntmps62
  go_wp2
  go_loopw [0, 3] (fun s0 s3 wr => ∃ (m : Nat) (ds : List Nat), m < 18446744073709551616 ∧ s0 = .int .u64 m ∧ OwnN wr w.heap.size s3 ds ∧ Hid (ds ++ digs R15 m = digs R15 n) ∧ Below w.heap.size w wr) (fun s0 _ _ => (intOf s0).toNat)
  case atStart => exact ⟨n, [], h, rfl, OwnN.nil _ _, rfl, Below.refl _ _⟩
  case round =>
    obtain ⟨m, ds, hm, rfl, hown, hd, hbl⟩ := hrel
    rcases Nat.eq_zero_or_pos m with rfl | hp
    · obtain ⟨a, cap, rfl, hc, hrd⟩ := hown.rd
      go_wp2
      go_ret
      have := hd.out
      rw [digs_zero, List.append_nil] at this
      subst this
      exact ⟨_, rfl, ⟨a, cap, rfl, hc, hrd⟩, hbl⟩
    · have hl1 : ds.length ≤ 5 := by
        have := congrArg List.length hd.out
        rw [List.length_append] at this
        have := HL.out
        omega
      have hnx := Lib.hid (digs_snoc_step R15 m R15_ge hp ds n hd.out)
      have hsz := hbl.size
      go_wp2_with (first
        | (at_builtin; refine wpList_append_dig rfl (.tmp 6) (.tmp 10) rfl w.heap.size _ ds rfl _ (m % 32768) (by omega) wr rfl rfl hown hsz (by omega) ?_; intro v' w2 hown2 hb2))
      go_roundw
      case rel =>
        refine ⟨m / 32768, ds ++ [m % 32768], by omega, by congr 1, hown2, hnx.out, hbl.trans hb2⟩
      case measure => simp [intOf]; omega

set_option maxHeartbeats 1000000 in
theorem rcmp_ne (va vb : Value) (m n : Nat) (w : World) (ha : NatV w .i64 R15 va m) (hb : NatV w .i64 R15 vb n) (_hma : (digs R15 m).length ≤ 1000000) (_hmb : (digs R15 n).length ≤ 1000000)
    (hne : (digs R15 m).length ≠ (digs R15 n).length) :
    Calls Tryd.prog 45 #[va, vb] w fun e w' => e = .returned (.int .i64 (cmpN m n)) ∧ Below w.heap.size w w' := by
  obtain ⟨aa, ca, rfl, hca, ra⟩ := ha
  obtain ⟨ab, cb, rfl, hcb, rb⟩ := hb
  rcases Nat.lt_or_gt_of_ne hne with h | h
  · rw [cmpN_lt (lt_of_digs R15 R15_ge m n h)]
    generalize digs R15 m = xs at *
    generalize digs R15 n = ys at *
    have hb : ((xs.length : Int) != (ys.length : Int)) = true := by simp; omega
    clear hne
    go_enter Tryd.func45, Tryd.ntmps45
    go_wp2
    go_ret
    exact ⟨rfl, Below.refl _ _⟩
  · rw [cmpN_gt (lt_of_digs R15 R15_ge n m h)]
    generalize digs R15 m = xs at *
    generalize digs R15 n = ys at *
    have hb : ((xs.length : Int) != (ys.length : Int)) = true := by simp; omega
    clear hne
    go_enter Tryd.func45, Tryd.ntmps45
    go_wp2
    go_ret
    exact ⟨rfl, Below.refl _ _⟩

set_option maxHeartbeats 1000000 in
theorem rcmp_eq (va vb : Value) (m n : Nat) (w : World) (ha : NatV w .i64 R15 va m) (hb : NatV w .i64 R15 vb n) (hma : (digs R15 m).length ≤ 1000000)
    (hl : (digs R15 m).length = (digs R15 n).length) :
    Calls Tryd.prog 45 #[va, vb] w fun e w' => e = .returned (.int .i64 (cmpN m n)) ∧ Below w.heap.size w w' := by
  obtain ⟨aa, ca, rfl, hca, ra⟩ := ha
  obtain ⟨ab, cb, rfl, hcb, rb⟩ := hb
  have va := val_digs R15 R15_ge m
  have vb := val_digs R15 R15_ge n
  have la := digs_ltR m
  have lb := digs_ltR n
  generalize digs R15 m = xs at *
  generalize digs R15 n = ys at *
  have VA := Lib.hid va; have VB := Lib.hid vb; have LA := Lib.hid la; have LB := Lib.hid lb; have HL := Lib.hid hl
  have hne : ((xs.length : Int) != (ys.length : Int)) = false := by simp; omega
  have hl1 : xs.length ≤ ys.length := by omega
  have hl2 : ys.length ≤ xs.length := by omega
  clear va vb la lb hl
  go_enter Tryd.func45, Tryd.ntmps45
  go_wp2
  go_loopw [5] (fun v wr => ∃ i : Nat, i ≤ xs.length ∧ v = .int .i64 ((i : Int) - 1) ∧ xs.drop i = ys.drop i ∧ Below w.heap.size w wr) (fun v _ => (intOf v + 1).toNat)
  case atStart => exact ⟨xs.length, by omega, rfl, by rw [List.drop_eq_nil_of_le (by omega), List.drop_eq_nil_of_le (by omega)], Below.refl _ _⟩
  case round =>
    obtain ⟨i, hi, rfl, hd, hbl⟩ := hrel
    have HD := Lib.hid hd; clear hd
    cases i with
    | zero =>
      go_wp2
      go_ret
      refine ⟨?_, hbl⟩
      have h1 := HD.out
      rw [List.drop_zero, List.drop_zero] at h1
      have h2 := VA.out; have h3 := VB.out
      rw [h1, h3] at h2; subst h2
      exact congrArg (fun x => Ending.returned (Value.int .i64 x)) (cmpN_eq n).symm
    | succ i =>
      obtain ⟨b1, o1, rfl, hb1, hc1⟩ := ra i (by omega)
      obtain ⟨b2, o2, rfl, hb2, hc2⟩ := rb i (by omega)
      rw [← hbl.cell (p := ⟨b1, o1 + i, none⟩) hb1] at hc1
      rw [← hbl.cell (p := ⟨b2, o2 + i, none⟩) hb2] at hc2
      have Lt := @val_lt_of R15 R15_ge xs ys LA.out i (by omega) HL.out HD.out
      have Gt := @val_lt_of R15 R15_ge ys xs LB.out i (by omega) HL.out.symm HD.out.symm
      rw [VA.out, VB.out] at Lt Gt
      have HLt := Lib.hid Lt; have HGt := Lib.hid Gt; clear Lt Gt
      have hdr : xs[i] = ys[i] → xs.drop i = ys.drop i := by
        intro h
        rw [List.drop_eq_getElem_cons (by omega), List.drop_eq_getElem_cons (by omega : i < ys.length), h, HD.out]
      have HDr := Lib.hid hdr; clear hdr
      generalize xs[i] = x at *
      generalize ys[i] = y at *
      rw [show (((i + 1 : Nat) : Int) - 1) = (i : Int) from by omega]
      rcases Nat.lt_trichotomy x y with h | h | h
      · go_wp2
        go_quiet (fail)
        go_wp2
        go_ret
        refine ⟨?_, by repeat (first | exact hbl | refine below_drewN ?_ _)⟩
        rw [cmpN_lt (HLt.out h)]; rfl
      · subst h
        go_wp2
        go_quiet (fail)
        go_wp2
        go_quiet (fail)
        go_wp2
        go_roundw
        case rel => exact ⟨i, by omega, by go_num, (by first | exact HDr.out rfl | exact HDr.out trivial), by repeat (first | exact hbl | refine below_drewN ?_ _)⟩
        case measure => simp [intOf]
      · go_wp2
        go_quiet (fail)
        go_wp2
        go_quiet (fail)
        go_wp2
        go_ret
        refine ⟨?_, by repeat (first | exact hbl | refine below_drewN ?_ _)⟩
        rw [cmpN_gt (HGt.out h)]; rfl

theorem rcmp_any (va vb : Value) (m n : Nat) (w : World) (ha : NatV w .i64 R15 va m) (hb : NatV w .i64 R15 vb n) (hma : (digs R15 m).length ≤ 1000000) (hmb : (digs R15 n).length ≤ 1000000) :
    Calls Tryd.prog 45 #[va, vb] w fun e w' => e = .returned (.int .i64 (cmpN m n)) ∧ Below w.heap.size w w' := by
  by_cases h : (digs R15 m).length = (digs R15 n).length
  · exact rcmp_eq va vb m n w ha hb hma h
  · exact rcmp_ne va vb m n w ha hb hma hmb h

end Go.Proofs.YtpjjbdpkhmeldaaDoor
