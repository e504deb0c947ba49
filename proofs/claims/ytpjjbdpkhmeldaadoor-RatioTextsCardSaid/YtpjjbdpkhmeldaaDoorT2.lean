/- contracts of ratio's Show and digits -/
import Derived.Test.YtpjjbdpkhmeldaaDoorT1
import Derived.Test.YtpjjbdpkhmeldaaDoorShelf
import Derived.WalkSmall
import Derived.Lib.IndexBytes
namespace Go.Proofs.YtpjjbdpkhmeldaaDoor
open Go.RowKit

/-- what the library's functions ask of the world -/
def Env (w : World) : Prop := Lib.TabIs Tryd.prog w "internal/strconv.uint64pow10" .u64 Lib.pow10Tab ∧ (∃ m, w.cell? ⟨0, 0, none⟩ = some (.int .i64 m)) ∧ 4 ≤ w.heap.size

theorem Env.below {w w' : World} (h : Env w) (hb : Below w.heap.size w w') : Env w' := by
  obtain ⟨h1, ⟨m, h2⟩, h3⟩ := h
  refine ⟨?_, ⟨m, (hb.cell (p := ⟨0, 0, none⟩) (by show 0 < w.heap.size; omega)).trans h2⟩, Nat.le_trans h3 hb.size⟩
  exact var?_below (g := 1) hb (by kernel_rfl) (by omega) h1

theorem below_growS (w : World) (q : Nat) (os : Array Obj) : Below w.heap.size w (Sort.grow (w.drewN q) os) := by
  refine ⟨rfl, rfl, rfl, by simp [Sort.grow], fun k hk => ?_⟩
  show ((w.drewN q).heap ++ os)[k]? = w.heap[k]?
  have e : (w.drewN q).heap = w.heap := rfl
  rw [e, Array.getElem?_append_left hk]

theorem itoa_any (n : Int) (w : World) (hn : I64 n) (hE : Env w) :
    Calls Tryd.prog 15 #[.int .i64 n] w fun e w' => e = .returned (.string ⟨(Lib.itoa n).toArray⟩) ∧ Below w.heap.size w w' := by
  refine (Tryd.strconv_Itoa n hn.1 hn.2 w hE.1).mono ?_
  rintro e w' ⟨rfl, k, os, rfl⟩
  exact ⟨rfl, below_growS w k os⟩

theorem sz_len (s : ByteArray) : s.data.toList.length = s.size := (Lib.size_eq s).symm
theorem take_succS (s : ByteArray) (k : Nat) (h : k < s.size) : s.data.toList.take (k + 1) = s.data.toList.take k ++ [s[k]] := by
  have h1 : k < s.data.toList.length := by rw [sz_len]; exact h
  rw [List.take_succ_eq_append_getElem h1]
  have h2 := Lib.data_getElem? s k h
  rw [List.getElem?_eq_getElem h1] at h2
  rw [Option.some.inj h2]

theorem toList_data (s : ByteArray) : s.toList = s.data.toList := Lib.toList_data s

theorem isDig_iff (b : UInt8) : isDig b = true ↔ 48 ≤ b.toNat ∧ b.toNat ≤ 57 := by
  unfold isDig
  simp

theorem readV_lt (l : List UInt8) (h : l.all isDig = true) : readV l < 10 ^ l.length := by
  induction hn : l.length generalizing l with
  | zero => have := List.length_eq_zero_iff.1 hn; subst this; simp [readV]
  | succ n ih =>
    have hne : l ≠ [] := by intro e; subst e; simp at hn
    obtain ⟨l', b, rfl⟩ : ∃ l' b, l = l' ++ [b] := ⟨l.dropLast, l.getLast hne, (List.dropLast_concat_getLast hne).symm⟩
    rw [List.all_append] at h
    simp only [Bool.and_eq_true] at h
    have hb := (isDig_iff b).1 (by simpa using h.2)
    have := ih l' h.1 (by simpa using hn)
    rw [readV_snoc, Nat.pow_succ]
    omega

theorem readV_len (l : List UInt8) (h : l.all isDig = true) (hl : l.length ≤ 60) : (digs W32 (readV l)).length ≤ 7 := by
  refine digs_length_le W32 W32_ge _ 7 ?_
  have h1 := readV_lt l h
  have h2 : 10 ^ l.length ≤ 10 ^ 60 := Nat.pow_le_pow_right (by omega) hl
  have h3 : (10 : Nat) ^ 60 < W32 ^ 7 := by decide +kernel
  omega

theorem okD_false_of {l : List UInt8} {b : UInt8} (hb : b ∈ l) (h : isDig b = false) : okD l = false := by
  unfold okD
  have : l.all isDig = false := by
    rw [List.all_eq_false]
    exact ⟨b, hb, by rw [h]; simp⟩
  rw [this]; simp

theorem mem_at (s : ByteArray) (k : Nat) (h : k < s.size) : s[k] ∈ s.data.toList := List.mem_of_getElem? (Lib.data_getElem? s k h)

theorem head_at (s : ByteArray) (h : 0 < s.size) : s.data.toList.head? = some s[0] := by
  rw [List.head?_eq_getElem?]; exact Lib.data_getElem? s 0 h

theorem NatV.zero32 (w : World) : NatV w .u32 W32 (.slice none 0 0) 0 := by
  refine ⟨none, 0, ?_, ?_, ?_⟩
  · rw [digs_zero]; rfl
  · rw [digs_zero]; simp
  · rw [digs_zero]; intro i hi; simp at hi

/-- the number so far -/
def DgS (w : World) (va : Value) (n : Nat) (w' : World) : Prop := Below w.heap.size w w' ∧ NatV w' .u32 W32 va n
theorem DgS.step {w : World} {va : Value} {n : Nat} {w1 w2 : World} (hb : Below w1.heap.size w1 w2) (h : DgS w va n w1) : DgS w va n w2 := ⟨h.1.trans (hb.mono h.1.size), h.2.below hb⟩

set_option maxHeartbeats 2000000 in
theorem digits_go (s : ByteArray) (w : World) (hl : s.size ≤ 60) (h0 : 0 < s.size) (hz : s[0].toNat ≠ 48 ∨ s.size ≤ 1) :
    Calls Tryd.prog 19 #[.string s] w fun e w' => ∃ v b, e = .returned (.tuple #[v, .bool b]) ∧ b = okD s.data.toList ∧ (b = true → NatV w' .u32 W32 v (readV s.data.toList)) ∧ (b = false → v = .slice none 0 0) ∧ Below w.heap.size w w' := by
  have hem : s.toList.isEmpty = false := by
    rw [toList_data]
    cases h : s.data.toList with
    | nil => have := sz_len s; rw [h] at this; simp at this; omega
    | cons a r => rfl
  have hok : s.data.toList.all isDig = true → okD s.data.toList = true := by
    intro h
    unfold okD
    rw [h, ← toList_data, hem, toList_data]
    rcases hz with hz | hz
    · have : s.data.toList.head? ≠ some 48 := by
        rw [head_at s h0]
        intro e
        exact hz (by rw [Option.some.inj e]; rfl)
      simp [this]
    · have : s.data.toList.length ≤ 1 := by rw [sz_len]; exact hz
      rw [decide_eq_true this]; simp
  have HOK := Lib.hid hok
  have C10 : Hid (∀ wx, Calls Tryd.prog 18 #[.int .u64 10] wx fun e w' => ∃ v, e = .returned v ∧ NatV w' .u32 W32 v 10 ∧ Below wx.heap.size wx w') := Lib.hid (fun wx => word_any 10 wx (by omega))
  have h10 : (digs W32 10).length ≤ 7 := digs_length_le W32 W32_ge _ 7 (by decide +kernel)
  clear hok
  obtain ⟨z, hz1⟩ : ∃ z, s[0].toNat = z := ⟨_, rfl⟩
  have hgd : (((z : Int) == 48) && decide ((1 : Int) < (s.size : Int))) = false := by
    rw [hz1] at hz
    rcases hz with h | h
    · have : ((z : Int) == 48) = false := by simp; omega
      rw [this]; rfl
    · have : decide ((1 : Int) < (s.size : Int)) = false := by simp; omega
      rw [this]; simp
  have hgz : (z = 48 ∧ ¬ (1 : Int) < (s.size : Int)) ∨ ((z : Int) == 48) = false := by
    rw [hz1] at hz
    by_cases h : z = 48
    · left; refine ⟨h, ?_⟩
      rcases hz with h2 | h2
      · exact absurd h h2
      · omega
    · right; simp; omega
  clear hz hgd
  have key : ∀ (K : Prop), (z = 48 → ¬ (1 : Int) < (s.size : Int) → K) → (((z : Int) == 48) = false → K) → K := fun K a b => hgz.elim (fun h => a h.1 h.2) b
  clear hgz
  go_enter Tryd.func19, Tryd.ntmps19
  go_upto_region 1 with fail
  go_cut [17] (fun s17 wx => s17 = .bool false ∧ wx = w)
  case first =>
    refine key _ (fun h1 h2 => ?_) (fun h1 => ?_)
    · subst h1
      have h3 : decide ((1 : Int) < (s.size : Int)) = false := decide_eq_false h2
      go_wp2_with fail
      go_meet
      exact ⟨rfl, rfl⟩
    · go_wp2_with fail
      go_meet
      exact ⟨rfl, rfl⟩
  case rest =>
    obtain ⟨rfl, rfl⟩ := hcut
    clear key hz1
    go_wp2
    go_loopw [20, 4] (fun s20 s4 wr => ∃ k : Nat, k ≤ s.size ∧ s20 = .int .i64 k ∧ DgS wc s4 (readV (s.data.toList.take k)) wr ∧ Hid ((s.data.toList.take k).all isDig = true)) (fun s20 _ _ => s.size - (intOf s20).toNat)
    case atStart => exact ⟨0, by omega, rfl, ⟨Below.refl _ _, NatV.zero32 _⟩, Lib.hid rfl⟩
    case round =>
      obtain ⟨k, hk, rfl, hS, HD⟩ := hrel
      by_cases hlt : k < s.size
      · have hts := take_succS s k hlt
        have hmem := mem_at s k hlt
        have hdg := isDig_iff s[k]
        obtain ⟨c, hc⟩ : ∃ c, s[k].toNat = c := ⟨_, rfl⟩
        rw [hc] at hdg
        by_cases hd : 48 ≤ c ∧ c ≤ 57
        · have hl7 := readV_len _ HD.out (by rw [List.length_take]; omega)
          have hnx : readV (s.data.toList.take (k + 1)) = readV (s.data.toList.take k) * 10 + (c - 48) := by rw [hts, readV_snoc, hc]
          have HDN : Hid ((s.data.toList.take (k + 1)).all isDig = true) := Lib.hid (by rw [hts, List.all_append, HD.out]; simp [hdg.2 hd])
          have CWc : Hid (∀ wx, Calls Tryd.prog 18 #[.int .u64 (IntKind.u64.wrap (IntKind.u8.wrap ((c : Int) - 48)))] wx fun e w' => ∃ v, e = .returned v ∧ NatV w' .u32 W32 v (c - 48) ∧ Below wx.heap.size wx w') := Lib.hid (fun wx => by
            have e1 : IntKind.u8.wrap ((c : Int) - 48) = (c : Int) - 48 := by simp [IntKind.wrap, IntKind.signed, IntKind.bits]; omega
            have e2 : IntKind.u64.wrap ((c : Int) - 48) = ((c - 48 : Nat) : Int) := by simp [IntKind.wrap, IntKind.signed, IntKind.bits]; omega
            rw [e1, e2]; exact word_any (c - 48) wx (by omega))
          have hlc : (digs W32 (c - 48)).length ≤ 7 := digs_length_le W32 W32_ge _ 7 (Nat.lt_of_le_of_lt (show c - 48 ≤ 10 by omega) (by decide +kernel))
          have HNX := Lib.hid hnx
          clear hts hmem hdg hnx
          obtain ⟨n, hn⟩ : ∃ n, n = readV (s.data.toList.take k) := ⟨_, rfl⟩
          rw [← hn] at hS hl7 HNX
          clear hn
          obtain ⟨a1, c1, e1⟩ := hS.2.shape
          subst e1
          have t1 : decide ((c : Int) < 48) = false := by simp; omega
          have t2 : decide ((57 : Int) < (c : Int)) = false := by simp; omega
          have hml := digs_length_mul W32 W32_ge n 10
          have CM := Lib.hid (fun va vb wx h1 h2 => mul_any va vb n 10 wx h1 h2 (by omega) (by omega))
          have CAd := Lib.hid (fun va vb wx h1 h2 => add_any va vb (n * 10) (c - 48) wx h1 h2 (by omega) (by omega))
          have hwd := fun (wq : World) => (Below.refl wq.heap.size wq).drew
          have hS0 := hS.step (hwd _)
          obtain ⟨L, hL⟩ : ∃ L, L = (digs W32 n).length := ⟨_, rfl⟩
          rw [← hL] at hS hS0 hml hl7
          rw [← hL]
          have HLL := Lib.hid hL
          clear hL
          obtain ⟨hd1, hd2⟩ := hd
          go_upto_region 9 with fail
          go_region_held3 (fun w' => DgS wc (.slice a1 L c1) n w') (first | assumption)
            (first
              | (go_at_call 18; (with_reducible refine (C10.out _).mono ?_); rintro e w1 ⟨v1, rfl, n1, hb1⟩; have hS1 := hS0.step hb1; have m1 := hS1.2; obtain ⟨a2, c2, e2⟩ := n1.shape; subst e2)
              | (go_at_call 32; (with_reducible refine (CM.out _ _ _ m1 n1).mono ?_); rintro e w2 ⟨v2, rfl, n2, hb2⟩; have hS2 := hS1.step hb2; obtain ⟨a3, c3, e3⟩ := n2.shape; subst e3)
              | (go_at_call 18; (with_reducible refine (CWc.out _).mono ?_); rintro e w3 ⟨v3, rfl, n3, hb3⟩; have hS3 := hS2.step hb3; have n2' := n2.below hb3; obtain ⟨a4, c4, e4⟩ := n3.shape; subst e4)
              | (go_at_call 37; (with_reducible refine (CAd.out _ _ _ n2' n3).mono ?_); rintro e w4 ⟨v4, rfl, n4, hb4⟩; have hS4 := hS3.step hb4))
          all_goals go_wp2
          all_goals exact ⟨⟨k + 1, by omega, by go_num, ⟨hS4.1, by rw [HNX.out]; exact n4⟩, HDN⟩, by simp [intOf]; omega⟩
        · have hnd : isDig s[k] = false := by
            rcases Bool.eq_false_or_eq_true (isDig s[k]) with h | h
            · exact absurd (hdg.1 h) hd
            · exact h
          have hof := okD_false_of hmem hnd
          have HOF := Lib.hid hof
          clear hof hnd hdg hmem hts HOK
          by_cases h1 : c < 48
          · have t1 : decide ((c : Int) < 48) = true := by simp; omega
            go_wp2
            (try rw [Exit.noGoto_ret])
            go_ret2
            exact ⟨_, _, rfl, HOF.out.symm, fun h => (by cases h), fun _ => rfl, hS.1⟩
          · have t1 : decide ((c : Int) < 48) = false := by simp; omega
            have t2 : decide ((57 : Int) < (c : Int)) = true := by simp; omega
            go_wp2
            (try rw [Exit.noGoto_ret])
            go_ret2
            exact ⟨_, _, rfl, HOF.out.symm, fun h => (by cases h), fun _ => rfl, hS.1⟩
      · obtain rfl : k = s.size := by omega
        have hfull : s.data.toList.take s.size = s.data.toList := List.take_of_length_le (by rw [sz_len]; omega)
        have HF := Lib.hid hfull
        clear hfull
        go_wp2
        go_ret2
        refine ⟨_, _, rfl, (HOK.out (by rw [← HF.out]; exact HD.out)).symm, fun _ => ?_, fun h => (by cases h), hS.1⟩
        have := hS.2
        rw [HF.out] at this
        exact this

set_option maxHeartbeats 1000000 in
theorem digits_any (s : ByteArray) (w : World) (hl : s.size ≤ 60) :
    Calls Tryd.prog 19 #[.string s] w fun e w' => ∃ v b, e = .returned (.tuple #[v, .bool b]) ∧ b = okD s.data.toList ∧ (b = true → NatV w' .u32 W32 v (readV s.data.toList)) ∧ (b = false → v = .slice none 0 0) ∧ Below w.heap.size w w' := by
  rcases Nat.eq_zero_or_pos s.size with h0 | h0
  · have hnil : s.data.toList = [] := List.length_eq_zero_iff.1 (by rw [sz_len]; exact h0)
    have hem : s.toList.isEmpty = true := by rw [toList_data, hnil]; rfl
    have hok : okD s.data.toList = false := by rw [hnil]; rfl
    have HOK := Lib.hid hok
    clear hok hnil
    go_enter Tryd.func19, Tryd.ntmps19
    go_wp2
    go_ret2
    exact ⟨_, _, rfl, HOK.out.symm, fun h => (by cases h), fun _ => rfl, Below.refl _ _⟩
  · by_cases hz : s[0].toNat ≠ 48 ∨ s.size ≤ 1
    · exact digits_go s w hl h0 hz
    · have hz2 : s[0].toNat = 48 := Decidable.byContradiction fun h => hz (.inl h)
      have hz3 : 1 < s.size := by
        rcases Nat.lt_or_ge 1 s.size with h | h
        · exact h
        · exact absurd (.inr h) hz
      have hem : s.toList.isEmpty = false := by
        rw [toList_data]
        cases h : s.data.toList with
        | nil => have := sz_len s; rw [h] at this; simp at this; omega
        | cons a r => rfl
      have hok : okD s.data.toList = false := by
        unfold okD
        have h1 : s.data.toList.head? = some 48 := by
          rw [head_at s h0]
          exact congrArg some (UInt8.toNat_inj.1 hz2)
        have h2 : ¬ s.data.toList.length ≤ 1 := by rw [sz_len]; omega
        rw [h1, decide_eq_false h2]
        simp
      have HOK := Lib.hid hok
      have h4 : decide ((1 : Int) < (s.size : Int)) = true := by simp; omega
      clear hok hz
      go_enter Tryd.func19, Tryd.ntmps19
      go_wp2
      go_ret2
      exact ⟨_, _, rfl, HOK.out.symm, fun h => (by cases h), fun _ => rfl, Below.refl _ _⟩

end Go.Proofs.YtpjjbdpkhmeldaaDoor
