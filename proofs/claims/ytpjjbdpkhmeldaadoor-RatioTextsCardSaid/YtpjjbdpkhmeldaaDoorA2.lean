/- contracts of ratio's word, add, sub, mul -/
import Derived.Test.YtpjjbdpkhmeldaaDoorA1
namespace Go.Proofs.YtpjjbdpkhmeldaaDoor
open Go.RowKit

theorem digs_word (n : Nat) (h : n < 18446744073709551616) : digs W32 n = trimN [n % 4294967296, n / 4294967296] := by
  have := digs_val W32 W32_ge [n % 4294967296, n / 4294967296] (by intro d hd; simp at hd; unfold W32; omega)
  rw [← this]
  congr 1
  simp [val, W32]; omega

theorem NatV.of_row {w : World} {k : IntKind} {B : Nat} (hB : 2 ≤ B) {a : Option Addr} {cap : Nat} {l : List Nat} (h : RdN w k a l) (hc : l.length ≤ cap) (hl : ∀ d ∈ l, d < B) (n : Nat) (hn : val B l = n) :
    NatV w k B (.slice a (trimN l).length cap) n := by
  have e : digs B n = trimN l := by rw [← hn]; exact digs_val B hB l hl
  have hle := trimN_length l
  refine ⟨a, cap, by rw [e], by rw [e]; omega, ?_⟩
  rw [e, trimN_prefix l]
  exact h.take _

theorem u32_type : (Tryd.prog.info? 65).map (fun i => (i.zero, i.size, i.bytes)) = some (some (Value.int .u32 0), 1, 4) := by kernel_rfl
theorem u32_size : (Tryd.prog.info? 65).map (·.size) = some 1 := by kernel_rfl

set_option maxHeartbeats 400000 in
theorem word_any (n : Nat) (w : World) (h : n < 18446744073709551616) :
    Calls Tryd.prog 18 #[.int .u64 n] w fun e w' => ∃ v, e = .returned v ∧ NatV w' .u32 W32 v n ∧ Below w.heap.size w w' := by
  have hb := Blk.lit w 65 .u32 #[Value.int IntKind.u32 ((n : Int) % 4294967296), Value.int IntKind.u32 ((n : Int) / 4294967296)] [n % 4294967296, n / 4294967296] (by simp)
  go_enter Tryd.func18, Tryd.ntmps18
  go_wp2_with fail
  refine (trim_ds (some ⟨w.heap.size, 0, none⟩) 2 [n % 4294967296, n / 4294967296] _ (by simp) (by simp) hb.rd).mono ?_
  rintro e w' ⟨rfl, rfl⟩
  go_wp2
  go_ret
  exact ⟨_, rfl, NatV.of_row W32_ge hb.rd (by simp) (by intro d hd; simp at hd; unfold W32; omega) _ (by simp [val, W32]; omega), (Below.refl _ _).alloc (Nat.le_refl _) _⟩

/-- what a list of digits is, padded -/
theorem add_step {B c x y k P S T : Nat} (_hB : 2 ≤ B) (h : P + c * B ^ k = S + T) : P + (c + (x + y)) % B * B ^ k + (c + (x + y)) / B * B ^ (k + 1) = S + x * B ^ k + (T + y * B ^ k) := by
  have := Nat.mod_add_div (c + (x + y)) B
  rw [Nat.pow_succ]
  generalize (c + (x + y)) % B = r at *
  generalize (c + (x + y)) / B = q at *
  generalize B ^ k = p at *
  have h2 : (r + B * q) * p = (c + (x + y)) * p := by rw [this]
  grind

def AddInv (xs C : List Nat) (bc bo : Nat) (w wr : World) (k cy : Nat) : Prop :=
  cy ≤ 1 ∧ bc < bo ∧ w.heap.size ≤ bc ∧ Below w.heap.size w wr ∧ Blk wr bc 65 .u32 C ∧
  ∃ o : List Nat, o.length = xs.length + 1 ∧ (∀ d ∈ o, d < W32) ∧ val W32 (o.take k) + cy * W32 ^ k = val W32 (xs.take k) + val W32 (C.take k) ∧ Blk wr bo 65 .u32 o

theorem AddInv.step {xs C : List Nat} {bc bo : Nat} {w wr : World} {k cy : Nat} (h : AddInv xs C bc bo w wr k cy) (hk : k < xs.length) (hC : k < C.length) (hx : xs[k] < 4294967296) (hy : C[k] < 4294967296) (j : Nat) :
    AddInv xs C bc bo w ((wr.drewN j).setCell ⟨bo, k, none⟩ (.int .u32 (((cy : Int) + ((xs[k] : Int) + (C[k] : Int))) % 4294967296))) (k + 1) ((cy + (xs[k] + C[k])) / 4294967296) := by
  obtain ⟨h1, h2, h3, h4, h5, o, ho, hd, hv, hb⟩ := h
  have hb' : Blk (wr.drewN j) bo 65 .u32 o := hb
  have h5' : Blk (wr.drewN j) bc 65 .u32 C := h5
  have e : ((cy : Int) + ((xs[k] : Int) + (C[k] : Int))) % 4294967296 = (((cy + (xs[k] + C[k])) % 4294967296 : Nat) : Int) := by omega
  rw [e]
  refine ⟨by omega, h2, h3, (below_drewN h4 j).setCell (by show _ ≤ bo; omega) _, h5'.other (by omega) _ _, _, ?_, ?_, ?_, hb'.set k _⟩
  · rw [List.length_set]; exact ho
  · intro d hd'
    rcases List.mem_or_eq_of_mem_set hd' with h | h
    · exact hd d h
    · subst h; unfold W32; omega
  · have := add_step (B := W32) W32_ge (x := xs[k]) (y := C[k]) hv
    rw [val_take_succ W32 _ k (by rw [List.length_set]; omega), val_take_succ W32 xs k hk, val_take_succ W32 C k hC, List.take_set_of_le (Nat.le_refl k)]
    simp only [List.getElem_set_self]
    exact this

theorem AddInv.facts {xs C : List Nat} {bc bo : Nat} {w wr : World} {k cy : Nat} (h : AddInv xs C bc bo w wr k cy) (hk : k ≤ xs.length) (hC : k < C.length) :
    cy ≤ 1 ∧ wr.cell? ⟨bc, k, none⟩ = some (.int .u32 (C[k] : Int)) ∧ (∃ v, wr.cell? ⟨bo, k, none⟩ = some v) ∧ wr.frozen? ⟨bo, k, none⟩ = false ∧ Below w.heap.size w wr := by
  obtain ⟨h1, h2, h3, h4, h5, o, ho, hd, hv, hb⟩ := h
  exact ⟨h1, h5.cell k hC, ⟨_, hb.cell k (by omega)⟩, hb.free k, h4⟩

theorem AddInv.top {xs C : List Nat} {bc bo : Nat} {w wr : World} {cy : Nat} (h : AddInv xs C bc bo w wr xs.length cy) :
    cy ≤ 1 ∧ (∃ v, wr.cell? ⟨bo, xs.length, none⟩ = some v) ∧ wr.frozen? ⟨bo, xs.length, none⟩ = false ∧
    ∃ o : List Nat, o.length = xs.length + 1 ∧ (∀ d ∈ o, d < W32) ∧ val W32 o = val W32 xs + val W32 (C.take xs.length) ∧ Blk (wr.setCell ⟨bo, xs.length, none⟩ (.int .u32 (cy : Int))) bo 65 .u32 o ∧ Below w.heap.size w (wr.setCell ⟨bo, xs.length, none⟩ (.int .u32 (cy : Int))) := by
  obtain ⟨h1, h2, h3, h4, h5, o, ho, hd, hv, hb⟩ := h
  refine ⟨h1, ⟨_, hb.cell _ (by omega)⟩, hb.free _, o.set xs.length cy, by simp [ho], ?_, ?_, hb.set _ _, h4.setCell (by show _ ≤ bo; omega) _⟩
  · intro d hd'
    rcases List.mem_or_eq_of_mem_set hd' with h | h
    · exact hd d h
    · subst h; unfold W32; omega
  · have e : o.set xs.length cy = (o.set xs.length cy).take (xs.length + 1) := by rw [List.take_of_length_le (by simp [ho])]
    rw [e, val_take_succ W32 _ _ (by simp [ho]), List.take_set_of_le (Nat.le_refl _)]
    simp only [List.getElem_set_self]
    rw [hv, List.take_length]

theorem AddInv.start {xs ys : List Nat} {w w2 w3 : World} (_hle : ys.length ≤ xs.length) (hB2 : Blk w2 w.heap.size 65 .u32 (ys ++ (List.replicate xs.length 0).drop ys.length)) (hb2 : Below w.heap.size w w2)
    (hB3 : Blk w3 w2.heap.size 65 .u32 (List.replicate (xs.length + 1) 0)) (hb3 : Below w2.heap.size w2 w3) :
    AddInv xs (ys ++ (List.replicate xs.length 0).drop ys.length) w.heap.size w2.heap.size w w3 0 0 := by
  have := hB2.lt
  refine ⟨by omega, this, Nat.le_refl _, hb2.trans (hb3.mono (by omega)), hB2.below hb3, _, by simp, ?_, by simp, hB3⟩
  intro d hd
  rw [List.mem_replicate] at hd
  unfold W32; omega

theorem pad_length {xs ys : List Nat} (hle : ys.length ≤ xs.length) : (ys ++ (List.replicate xs.length 0).drop ys.length).length = xs.length := by simp; omega
theorem pad_lt {xs ys : List Nat} (h : ∀ d ∈ ys, d < 4294967296) : ∀ d ∈ (ys ++ (List.replicate xs.length 0).drop ys.length), d < 4294967296 := by
  intro d hd
  rcases List.mem_append.1 hd with h' | h'
  · exact h d h'
  · have := List.mem_of_mem_drop h'
    rw [List.mem_replicate] at this
    omega
theorem pad_val {xs ys : List Nat} (B : Nat) : val B (ys ++ (List.replicate xs.length 0).drop ys.length) = val B ys := by
  rw [val_append, List.drop_replicate, val_replicate_zero]; simp

set_option maxHeartbeats 2000000 in
theorem add_0 (va vb : Value) (m n : Nat) (w : World) (ha : NatV w .u32 W32 va m) (hb : NatV w .u32 W32 vb n) (hma : (digs W32 m).length ≤ 100000) (_hmb : (digs W32 n).length ≤ 100000)
    (hle : (digs W32 n).length ≤ (digs W32 m).length) :
    Calls Tryd.prog 37 #[va, vb] w fun e w' => ∃ v, e = .returned v ∧ NatV w' .u32 W32 v (m + n) ∧ Below w.heap.size w w' := by
  obtain ⟨aa, ca, rfl, hca, ra⟩ := ha
  obtain ⟨ab, cb, rfl, hcb, rb⟩ := hb
  have va := val_digs W32 W32_ge m
  have vb := val_digs W32 W32_ge n
  have la := digs_lt32 m
  have lb := digs_lt32 n
  generalize digs W32 m = xs at *
  generalize digs W32 n = ys at *
  have VA := Lib.hid va; have VB := Lib.hid vb; have LA := Lib.hid la; have LB := Lib.hid lb
  clear va vb la lb
  go_enter Tryd.func37, Tryd.ntmps37
  go_wp2_with (first
    | (at_make; refine wpList_make_row _ rfl (.tmp 17) (.tmp 17) 42 rfl 65 .u32 4 (by kernel_rfl) u32_type .i64 .i64 _ _ xs.length rfl rfl rfl rfl (by omega) (by omega) ?_; intro w1 hB1 hb1 hs1)
    | (with_reducible show wpList _ _ _ _ _ _; refine wpList_copy_row rfl (.tmp 19) (.tmp 20) 42 42 rfl 65 (by kernel_rfl) u32_size _ _ _ _ _ _ rfl rfl 65 .u32 (List.replicate xs.length 0) ys (by simp) rfl hB1 (rb.below hb1) (by simp; omega) ?_; intro w2 hB2 hb2)
    | (at_make; refine wpList_make_row _ rfl (.tmp 24) (.tmp 24) 42 rfl 65 .u32 4 (by kernel_rfl) u32_type .i64 .i64 _ _ (xs.length + 1) rfl rfl (by omega) (by omega) (by omega) (by omega) ?_; intro w3 hB3 hb3 hs3))
  have hC := pad_length (xs := xs) (ys := ys) (by omega)
  have hCl := Lib.hid (pad_lt (xs := xs) LB.out)
  have hCv := Lib.hid (pad_val (xs := xs) (ys := ys) W32)
  have inv0 := AddInv.start (xs := xs) (ys := ys) (w := w) (by omega) hB2 (hb1.trans hb2) hB3 hb3
  clear hB2 hb2 hB3 hb3 hB1 hb1 hs1 hs3
  generalize ys ++ (List.replicate xs.length 0).drop ys.length = C at *
  obtain ⟨bo, hbo⟩ : ∃ bo, bo = w2.heap.size := ⟨_, rfl⟩
  obtain ⟨bc, hbc⟩ : ∃ bc, bc = w.heap.size := ⟨_, rfl⟩
  rw [← hbo, ← hbc] at inv0
  rw [← hbo, ← hbc]
  have hC1 : C.length ≤ xs.length := by omega
  have hC2 : xs.length ≤ C.length := by omega
  have HC := Lib.hid hC
  clear hbo hC
  go_loopw [28, 7] (fun s28 s7 wr => ∃ k cy : Nat, k ≤ xs.length ∧ s28 = .int .i64 k ∧ s7 = .int .u64 cy ∧ AddInv xs C bc bo w wr k cy) (fun s28 _ _ => xs.length - (intOf s28).toNat)
  case atStart => exact ⟨0, 0, by omega, rfl, rfl, inv0⟩
  case round =>
    obtain ⟨k, cy, hk, rfl, rfl, inv⟩ := hrel
    clear inv0
    by_cases hlt : k < xs.length
    · obtain ⟨hcy, hcc, ⟨v0, hco⟩, hfo, hbl⟩ := inv.facts hk (by omega)
      obtain ⟨b1, o1, rfl, hb1, hc1⟩ := ra k hlt
      rw [← hbl.cell (p := ⟨b1, o1 + k, none⟩) hb1] at hc1
      have hx : xs[k] < 4294967296 := LA.out _ (List.getElem_mem _)
      have hy : C[k] < 4294967296 := hCl.out _ (List.getElem_mem _)
      have stp := inv.step hlt (by omega) hx hy
      have STP := Lib.hid stp; clear stp
      have Hbc := Lib.hid hbc; clear hbc
      generalize xs[k] = x at *
      generalize C[k] = y at *
      go_wp2
      go_quiet (fail)
      go_wp2
      go_roundw
      case rel => exact ⟨k + 1, _, by omega, by go_num, by go_num, STP.out _⟩
      case measure => simp [intOf]; omega
    · obtain rfl : k = xs.length := by omega
      obtain ⟨hcy, ⟨v0, hco⟩, hfo, o, hol, hod, hov, hob, hbe⟩ := inv.top
      have hov' : val W32 o = m + n := by rw [hov, VA.out, ← HC.out, List.take_length, hCv.out, VB.out]
      have HOV := Lib.hid hov'; have HOD := Lib.hid hod; have HOL := Lib.hid hol; have Hbc := Lib.hid hbc
      clear hov hov' hod hbc
      have hol1 : o.length ≤ xs.length + 1 := by omega
      have hol2 : xs.length + 1 ≤ o.length := by omega
      clear hol
      go_wp2_with fail
      rw [show xs.length + 1 = o.length from HOL.out.symm]
      refine (trim_ds (some ⟨bo, 0, none⟩) o.length o _ (by omega) (by omega) hob.rd).mono ?_
      rintro e w' ⟨rfl, rfl⟩
      go_wp2
      go_ret
      have hn := NatV.of_row W32_ge hob.rd (Nat.le_refl _) HOD.out _ HOV.out
      
      exact ⟨_, rfl, hn, by rw [← Hbc.out] at hbe; rw [← Hbc.out]; exact hbe⟩

set_option maxHeartbeats 2000000 in
theorem add_1 (va vb : Value) (m n : Nat) (w : World) (ha : NatV w .u32 W32 va m) (hb : NatV w .u32 W32 vb n) (hma : (digs W32 m).length ≤ 100000) (hmb : (digs W32 n).length ≤ 100000)
    (hle : (digs W32 m).length < (digs W32 n).length) :
    Calls Tryd.prog 37 #[va, vb] w fun e w' => ∃ v, e = .returned v ∧ NatV w' .u32 W32 v (m + n) ∧ Below w.heap.size w w' := by
  obtain ⟨aa, ca, rfl, hca, ra⟩ := ha
  obtain ⟨ab, cb, rfl, hcb, rb⟩ := hb
  have va := val_digs W32 W32_ge m
  have vb := val_digs W32 W32_ge n
  have la := digs_lt32 m
  have lb := digs_lt32 n
  generalize digs W32 m = xs at *
  generalize digs W32 n = ys at *
  have VA := Lib.hid va; have VB := Lib.hid vb; have LA := Lib.hid la; have LB := Lib.hid lb
  clear va vb la lb
  go_enter Tryd.func37, Tryd.ntmps37
  go_wp2_with (first
    | (at_make; refine wpList_make_row _ rfl (.tmp 17) (.tmp 17) 42 rfl 65 .u32 4 (by kernel_rfl) u32_type .i64 .i64 _ _ ys.length rfl rfl rfl rfl (by omega) (by omega) ?_; intro w1 hB1 hb1 hs1)
    | (with_reducible show wpList _ _ _ _ _ _; refine wpList_copy_row rfl (.tmp 19) (.tmp 20) 42 42 rfl 65 (by kernel_rfl) u32_size _ _ _ _ _ _ rfl rfl 65 .u32 (List.replicate ys.length 0) xs (by simp) rfl hB1 (ra.below hb1) (by simp; omega) ?_; intro w2 hB2 hb2)
    | (at_make; refine wpList_make_row _ rfl (.tmp 24) (.tmp 24) 42 rfl 65 .u32 4 (by kernel_rfl) u32_type .i64 .i64 _ _ (ys.length + 1) rfl rfl (by omega) (by omega) (by omega) (by omega) ?_; intro w3 hB3 hb3 hs3))
  have hC := pad_length (xs := ys) (ys := xs) (by omega)
  have hCl := Lib.hid (pad_lt (xs := ys) LA.out)
  have hCv := Lib.hid (pad_val (xs := ys) (ys := xs) W32)
  have inv0 := AddInv.start (xs := ys) (ys := xs) (w := w) (by omega) hB2 (hb1.trans hb2) hB3 hb3
  clear hB2 hb2 hB3 hb3 hB1 hb1 hs1 hs3
  generalize xs ++ (List.replicate ys.length 0).drop xs.length = C at *
  obtain ⟨bo, hbo⟩ : ∃ bo, bo = w2.heap.size := ⟨_, rfl⟩
  obtain ⟨bc, hbc⟩ : ∃ bc, bc = w.heap.size := ⟨_, rfl⟩
  rw [← hbo, ← hbc] at inv0
  rw [← hbo, ← hbc]
  have hC1 : C.length ≤ ys.length := by omega
  have hC2 : ys.length ≤ C.length := by omega
  have HC := Lib.hid hC
  clear hbo hC
  go_loopw [28, 7] (fun s28 s7 wr => ∃ k cy : Nat, k ≤ ys.length ∧ s28 = .int .i64 k ∧ s7 = .int .u64 cy ∧ AddInv ys C bc bo w wr k cy) (fun s28 _ _ => ys.length - (intOf s28).toNat)
  case atStart => exact ⟨0, 0, by omega, rfl, rfl, inv0⟩
  case round =>
    obtain ⟨k, cy, hk, rfl, rfl, inv⟩ := hrel
    clear inv0
    by_cases hlt : k < ys.length
    · obtain ⟨hcy, hcc, ⟨v0, hco⟩, hfo, hbl⟩ := inv.facts hk (by omega)
      obtain ⟨b1, o1, rfl, hb1, hc1⟩ := rb k hlt
      rw [← hbl.cell (p := ⟨b1, o1 + k, none⟩) hb1] at hc1
      have hx : ys[k] < 4294967296 := LB.out _ (List.getElem_mem _)
      have hy : C[k] < 4294967296 := hCl.out _ (List.getElem_mem _)
      have stp := inv.step hlt (by omega) hx hy
      have STP := Lib.hid stp; clear stp
      have Hbc := Lib.hid hbc; clear hbc
      generalize ys[k] = x at *
      generalize C[k] = y at *
      go_wp2
      go_quiet (fail)
      go_wp2
      go_roundw
      case rel => exact ⟨k + 1, _, by omega, by go_num, by go_num, STP.out _⟩
      case measure => simp [intOf]; omega
    · obtain rfl : k = ys.length := by omega
      obtain ⟨hcy, ⟨v0, hco⟩, hfo, o, hol, hod, hov, hob, hbe⟩ := inv.top
      have hov' : val W32 o = n + m := by rw [hov, VB.out, ← HC.out, List.take_length, hCv.out, VA.out]
      have HOV := Lib.hid hov'; have HOD := Lib.hid hod; have HOL := Lib.hid hol; have Hbc := Lib.hid hbc
      clear hov hov' hod hbc
      have hol1 : o.length ≤ ys.length + 1 := by omega
      have hol2 : ys.length + 1 ≤ o.length := by omega
      clear hol
      go_wp2_with fail
      rw [show ys.length + 1 = o.length from HOL.out.symm]
      refine (trim_ds (some ⟨bo, 0, none⟩) o.length o _ (by omega) (by omega) hob.rd).mono ?_
      rintro e w' ⟨rfl, rfl⟩
      go_wp2
      go_ret
      have hn := NatV.of_row W32_ge hob.rd (Nat.le_refl _) HOD.out _ HOV.out
      rw [Nat.add_comm n m] at hn
      exact ⟨_, rfl, hn, by rw [← Hbc.out] at hbe; rw [← Hbc.out]; exact hbe⟩

theorem add_any (va vb : Value) (m n : Nat) (w : World) (ha : NatV w .u32 W32 va m) (hb : NatV w .u32 W32 vb n) (hma : (digs W32 m).length ≤ 100000) (hmb : (digs W32 n).length ≤ 100000) :
    Calls Tryd.prog 37 #[va, vb] w fun e w' => ∃ v, e = .returned v ∧ NatV w' .u32 W32 v (m + n) ∧ Below w.heap.size w w' := by
  by_cases h : (digs W32 n).length ≤ (digs W32 m).length
  · exact add_0 va vb m n w ha hb hma hmb h
  · exact add_1 va vb m n w ha hb hma hmb (by omega)

end Go.Proofs.YtpjjbdpkhmeldaaDoor
