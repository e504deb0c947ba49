/- contracts of the reference's natAdd, natSub, double -/
import Derived.Test.YtpjjbdpkhmeldaaDoorR1
namespace Go.Proofs.YtpjjbdpkhmeldaaDoor
open Go.RowKit

theorem val_snoc (B : Nat) (l : List Nat) (d : Nat) : val B (l ++ [d]) = val B l + d * B ^ l.length := by
  rw [val_append, val_cons]; simp [Nat.mul_comm]

/-- after k digits of a sum -/
def RaP (xs ys : List Nat) (k cy : Nat) (o : List Nat) : Prop := o.length = k ∧ (∀ d ∈ o, d < R15) ∧ cy ≤ 1 ∧ val R15 o + cy * R15 ^ k = val R15 (xs.take k) + val R15 (ys.take k)

theorem RaP.step {xs ys : List Nat} {k cy x y : Nat} {o : List Nat} (h : RaP xs ys k cy o) (hx : val R15 (xs.take (k + 1)) = val R15 (xs.take k) + x * R15 ^ k) (hy : val R15 (ys.take (k + 1)) = val R15 (ys.take k) + y * R15 ^ k) (hxl : x < 32768) (hyl : y < 32768) :
    RaP xs ys (k + 1) ((cy + x + y) / 32768) (o ++ [(cy + x + y) % 32768]) := by
  obtain ⟨h1, h2, h3, h4⟩ := h
  refine ⟨by simp [h1], ?_, by omega, ?_⟩
  · intro d hd
    rcases List.mem_append.1 hd with h | h
    · exact h2 d h
    · simp at h; subst h; unfold R15; omega
  · rw [val_snoc, h1, hx, hy, Nat.pow_succ]
    have := Nat.mod_add_div (cy + x + y) 32768
    have h5 : ((cy + x + y) % 32768 + R15 * ((cy + x + y) / 32768)) * R15 ^ k = (cy + x + y) * R15 ^ k := by rw [show R15 = 32768 from rfl, this]
    generalize (cy + x + y) % 32768 = a at *
    generalize (cy + x + y) / 32768 = b at *
    generalize R15 ^ k = p at *
    generalize R15 = c at *
    grind

theorem NatV.of_own {w : World} {base : Nat} {v : Value} {l : List Nat} (h : OwnN w base v l) : ∃ a cap, v = .slice a l.length cap ∧ l.length ≤ cap ∧ RdN w .i64 a l := h.rd

theorem val_take_stepR (ys : List Nat) (h : ∀ d ∈ ys, d < 32768) (k : Nat) : ∃ y, (k < ys.length → ys[k]? = some y) ∧ (ys.length ≤ k → y = 0) ∧ y < 32768 ∧ val R15 (ys.take (k + 1)) = val R15 (ys.take k) + y * R15 ^ k := by
  by_cases hk : k < ys.length
  · exact ⟨ys[k], fun _ => List.getElem?_eq_getElem hk, fun h' => by omega, h _ (List.getElem_mem _), val_take_succ R15 ys k hk⟩
  · refine ⟨0, fun h' => by omega, fun _ => rfl, by omega, ?_⟩
    rw [List.take_of_length_le (by omega), List.take_of_length_le (by omega)]; omega

set_option maxHeartbeats 2000000 in
theorem radd_any (va vb : Value) (m n : Nat) (w : World) (ha : NatV w .i64 R15 va m) (hb : NatV w .i64 R15 vb n) (hma : (digs R15 m).length ≤ 100000) (hmb : (digs R15 n).length ≤ 100000) :
    Calls Tryd.prog 41 #[va, vb] w fun e w' => ∃ v, e = .returned v ∧ NatV w' .i64 R15 v (m + n) ∧ Below w.heap.size w w' := by
  obtain ⟨aa, ca, rfl, hca, ra⟩ := ha
  obtain ⟨ab, cb, rfl, hcb, rb⟩ := hb
  have va := val_digs R15 R15_ge m
  have vb := val_digs R15 R15_ge n
  have la := digs_ltR m
  have lb := digs_ltR n
  generalize digs R15 m = xs at *
  generalize digs R15 n = ys at *
  have VA := Lib.hid va; have LA := Lib.hid la
  clear va la
  have VB := Lib.hid vb; have LB := Lib.hid lb
  clear vb lb
  go_enter Tryd.func41, Tryd.ntmps41
  go_wp2
  go_loopw [7, 6, 5] (fun s7 s6 s5 wr => ∃ (k cy : Nat) (o : List Nat), (k ≤ xs.length ∨ k ≤ ys.length) ∧ k ≤ 100000 ∧ cy ≤ 1 ∧ s7 = .int .i64 k ∧ s6 = .int .i64 cy ∧ OwnN wr w.heap.size s5 o ∧ RaP xs ys k cy o ∧ Below w.heap.size w wr) (fun s7 _ _ _ => (xs.length + ys.length) - (intOf s7).toNat)
  case atStart => exact ⟨0, 0, [], by omega, by omega, by omega, rfl, rfl, OwnN.nil _ _, ⟨rfl, by simp, by omega, by simp⟩, Below.refl _ _⟩
  case round =>
    obtain ⟨k, cy, o, hk, hk2, hcy, rfl, rfl, hown, hP, hbl⟩ := hrel
    obtain ⟨x, hx1, hx2, hx3, hx4⟩ := val_take_stepR xs LA.out k
    obtain ⟨y, hy1, hy2, hy3, hy4⟩ := val_take_stepR ys LB.out k
    have hol : o.length ≤ 100000 := by rw [hP.1]; exact hk2
    have STP := Lib.hid (hP.step hx4 hy4 hx3 hy3)
    have HP := Lib.hid hP
    have hsz := hbl.size
    clear hx4 hy4 hP hk
    by_cases hkx : k < xs.length
    · have t1 : decide ((k : Int) < (xs.length : Int)) = true := by simp; omega
      obtain ⟨b1, o1, rfl, hb1, hc1⟩ := ra k hkx
      rw [← hbl.cell (p := ⟨b1, o1 + k, none⟩) hb1] at hc1
      have e1 := hx1 hkx
      rw [List.getElem?_eq_getElem hkx] at e1
      rw [Option.some.inj e1] at hc1
      clear hx1 hx2 e1
      by_cases hky : k < ys.length
      · have t2 : decide ((k : Int) < (ys.length : Int)) = true := by simp; omega
        obtain ⟨b2, o2, rfl, hb2, hc2⟩ := rb k hky
        rw [← hbl.cell (p := ⟨b2, o2 + k, none⟩) hb2] at hc2
        have e2 := hy1 hky
        rw [List.getElem?_eq_getElem hky] at e2
        rw [Option.some.inj e2] at hc2
        clear hy1 hy2 e2
        go_wp2_with (first
          | (at_builtin; refine wpList_append_dig rfl (.tmp 40) (.tmp 43) rfl w.heap.size _ o rfl _ ((cy + x + y) % 32768) (by omega) wr rfl rfl hown hsz (by omega) ?_; intro v' w2 hown2 hbl2))
        go_roundw
        case rel => exact ⟨k + 1, (cy + x + y) / 32768, o ++ [(cy + x + y) % 32768], by omega, by omega, by omega, by go_num, by congr 1, hown2, STP.out, hbl.trans hbl2⟩
        case measure => simp [intOf]; omega
      · have t2 : decide ((k : Int) < (ys.length : Int)) = false := by simp; omega
        obtain rfl := hy2 (by omega)
        clear hy1 hy2
        go_wp2_with (first
          | (at_builtin; refine wpList_append_dig rfl (.tmp 40) (.tmp 43) rfl w.heap.size _ o rfl _ ((cy + x + 0) % 32768) (by omega) wr rfl rfl hown hsz (by omega) ?_; intro v' w2 hown2 hbl2))
        go_roundw
        case rel => exact ⟨k + 1, (cy + x + 0) / 32768, o ++ [(cy + x + 0) % 32768], by omega, by omega, by omega, by go_num, by first | (congr 1; done) | (congr 1; omega), hown2, STP.out, hbl.trans hbl2⟩
        case measure => simp [intOf]; omega
    · have t1 : decide ((k : Int) < (xs.length : Int)) = false := by simp; omega
      obtain rfl := hx2 (by omega)
      clear hx1 hx2
      by_cases hky : k < ys.length
      · have t2 : decide ((k : Int) < (ys.length : Int)) = true := by simp; omega
        obtain ⟨b2, o2, rfl, hb2, hc2⟩ := rb k hky
        rw [← hbl.cell (p := ⟨b2, o2 + k, none⟩) hb2] at hc2
        have e2 := hy1 hky
        rw [List.getElem?_eq_getElem hky] at e2
        rw [Option.some.inj e2] at hc2
        clear hy1 hy2 e2
        go_wp2_with (first
          | (at_builtin; refine wpList_append_dig rfl (.tmp 40) (.tmp 43) rfl w.heap.size _ o rfl _ ((cy + 0 + y) % 32768) (by omega) wr rfl rfl hown hsz (by omega) ?_; intro v' w2 hown2 hbl2))
        go_roundw
        case rel => exact ⟨k + 1, (cy + 0 + y) / 32768, o ++ [(cy + 0 + y) % 32768], by omega, by omega, by omega, by go_num, by first | (congr 1; done) | (congr 1; omega), hown2, STP.out, hbl.trans hbl2⟩
        case measure => simp [intOf]; omega
      · have t2 : decide ((k : Int) < (ys.length : Int)) = false := by simp; omega
        clear hy1 hy2 STP
        go_wp2_with (first
          | (at_builtin; refine wpList_append_dig rfl (.tmp 47) (.tmp 49) rfl w.heap.size _ o rfl _ cy rfl wr rfl rfl hown hsz (by omega) ?_; intro v' w2 hown2 hbl2; obtain ⟨o2, ho2⟩ : ∃ x, x = o ++ [cy] := ⟨_, rfl⟩; rw [← ho2] at hown2; have HO2 := Lib.hid ho2; have hl2 : o2.length ≤ 100001 := (by rw [ho2]; simp; omega); clear ho2; obtain ⟨a9, c9, e9, h9, r9⟩ := hown2.rd; subst e9)
          | (go_at_call 43; refine (rtrim_ds a9 c9 o2 w2 (by omega) h9 r9).mono ?_; rintro e w3 ⟨rfl, rfl⟩))
        go_ret
        obtain ⟨p1, p2, p3, p4⟩ := HP.out
        have ho2 := HO2.out
        subst ho2
        refine ⟨_, rfl, NatV.of_row R15_ge r9 h9 ?_ _ ?_, hbl.trans hbl2⟩
        · intro d hd
          rcases List.mem_append.1 hd with h | h
          · exact p2 d h
          · simp at h; subst h; unfold R15; omega
        · rw [val_snoc, p1, p4, List.take_of_length_le (by omega), List.take_of_length_le (by omega), VA.out, VB.out]

theorem rdouble_any (va : Value) (m : Nat) (w : World) (ha : NatV w .i64 R15 va m) (hma : (digs R15 m).length ≤ 100000) :
    Calls Tryd.prog 59 #[va] w fun e w' => ∃ v, e = .returned v ∧ NatV w' .i64 R15 v (m + m) ∧ Below w.heap.size w w' := by
  go_enter Tryd.func59, Tryd.ntmps59
  go_wp2_with fail
  refine (radd_any va va m m w ha ha hma hma).mono ?_
  rintro e w1 ⟨v, rfl, hv, hb⟩
  go_wp2
  go_ret
  exact ⟨_, rfl, hv, hb⟩

/-- after k digits of a difference -/
def RsP (xs ys : List Nat) (k b : Nat) (o : List Nat) : Prop := o.length = k ∧ (∀ d ∈ o, d < R15) ∧ b ≤ 1 ∧ val R15 o + val R15 (ys.take k) = val R15 (xs.take k) + b * R15 ^ k

theorem RsP.step {xs ys : List Nat} {k b x y : Nat} {o : List Nat} (h : RsP xs ys k b o) (hx : val R15 (xs.take (k + 1)) = val R15 (xs.take k) + x * R15 ^ k) (hy : val R15 (ys.take (k + 1)) = val R15 (ys.take k) + y * R15 ^ k) (v b' : Nat) (hxl : x < 32768) (hyl : y < 32768)
    (hv : (b + y ≤ x ∧ v = x - (b + y) ∧ b' = 0) ∨ (x < b + y ∧ v = x + 32768 - (b + y) ∧ b' = 1)) : RsP xs ys (k + 1) b' (o ++ [v]) := by
  obtain ⟨h1, h2, h3, h4⟩ := h
  refine ⟨by simp [h1], ?_, by omega, ?_⟩
  · intro d hd
    rcases List.mem_append.1 hd with h | h
    · exact h2 d h
    · simp at h; subst h; unfold R15; omega
  · rw [val_snoc, h1, hx, hy]
    rcases hv with ⟨a1, rfl, rfl⟩ | ⟨a1, rfl, rfl⟩
    · exact sub_step0 h4 a1
    · exact sub_step1 (B := R15) h4 a1 (by unfold R15; omega)

set_option maxHeartbeats 2000000 in
theorem rsub_any (va vb : Value) (m n : Nat) (w : World) (ha : NatV w .i64 R15 va m) (hb : NatV w .i64 R15 vb n) (hma : (digs R15 m).length ≤ 100000) (hmn : n ≤ m) :
    Calls Tryd.prog 60 #[va, vb] w fun e w' => ∃ v, e = .returned v ∧ NatV w' .i64 R15 v (m - n) ∧ Below w.heap.size w w' := by
  have hlen := digs_length_mono R15 R15_ge n m hmn
  obtain ⟨aa, ca, rfl, hca, ra⟩ := ha
  obtain ⟨ab, cb, rfl, hcb, rb⟩ := hb
  have va := val_digs R15 R15_ge m
  have vb := val_digs R15 R15_ge n
  have la := digs_ltR m
  have lb := digs_ltR n
  generalize digs R15 m = xs at *
  generalize digs R15 n = ys at *
  have VA := Lib.hid va; have LA := Lib.hid la
  clear va la
  have VB := Lib.hid vb; have LB := Lib.hid lb
  clear vb lb
  go_enter Tryd.func60, Tryd.ntmps60
  go_wp2
  go_loopw [7, 6, 5] (fun s7 s6 s5 wr => ∃ (k b : Nat) (o : List Nat), k ≤ xs.length ∧ b ≤ 1 ∧ s7 = .int .i64 k ∧ s6 = .int .i64 b ∧ OwnN wr w.heap.size s5 o ∧ RsP xs ys k b o ∧ Below w.heap.size w wr) (fun s7 _ _ _ => xs.length - (intOf s7).toNat)
  case atStart => exact ⟨0, 0, [], by omega, by omega, rfl, rfl, OwnN.nil _ _, ⟨rfl, by simp, by omega, by simp⟩, Below.refl _ _⟩
  case round =>
    obtain ⟨k, b, o, hk, hcy, rfl, rfl, hown, hP, hbl⟩ := hrel
    obtain ⟨x, hx1, hx2, hx3, hx4⟩ := val_take_stepR xs LA.out k
    obtain ⟨y, hy1, hy2, hy3, hy4⟩ := val_take_stepR ys LB.out k
    have hol : o.length ≤ 100000 := by rw [hP.1]; omega
    have STP := Lib.hid (fun v b' => hP.step hx4 hy4 v b' hx3 hy3)
    have HP := Lib.hid hP
    have hsz := hbl.size
    clear hx4 hy4 hP
    by_cases hkx : k < xs.length
    · obtain ⟨b1, o1, rfl, hb1, hc1⟩ := ra k hkx
      rw [← hbl.cell (p := ⟨b1, o1 + k, none⟩) hb1] at hc1
      have e1 := hx1 hkx
      rw [List.getElem?_eq_getElem hkx] at e1
      rw [Option.some.inj e1] at hc1
      clear hx1 hx2 e1
      by_cases hky : k < ys.length
      · obtain ⟨b2, o2, rfl, hb2, hc2⟩ := rb k hky
        rw [← hbl.cell (p := ⟨b2, o2 + k, none⟩) hb2] at hc2
        have e2 := hy1 hky
        rw [List.getElem?_eq_getElem hky] at e2
        rw [Option.some.inj e2] at hc2
        clear hy1 hy2 e2
        by_cases hle : b + y ≤ x
        · go_wp2_with (first
            | (at_builtin; refine wpList_append_dig rfl (.tmp 35) (.tmp 37) rfl w.heap.size _ o rfl _ (x - (b + y)) (by omega) wr rfl rfl hown hsz (by omega) ?_; intro v' w2 hown2 hbl2))
          go_roundw
          case rel => exact ⟨k + 1, 0, o ++ [x - (b + y)], by omega, by omega, by go_num, rfl, hown2, STP.out _ _ (.inl ⟨hle, rfl, rfl⟩), hbl.trans hbl2⟩
          case measure => simp [intOf]; omega
        · go_wp2_with (first
            | (at_builtin; refine wpList_append_dig rfl (.tmp 35) (.tmp 37) rfl w.heap.size _ o rfl _ (x + 32768 - (b + y)) (by omega) wr rfl rfl hown hsz (by omega) ?_; intro v' w2 hown2 hbl2))
          go_roundw
          case rel => exact ⟨k + 1, 1, o ++ [x + 32768 - (b + y)], by omega, by omega, by go_num, rfl, hown2, STP.out _ _ (.inr ⟨by omega, rfl, rfl⟩), hbl.trans hbl2⟩
          case measure => simp [intOf]; omega
      · obtain rfl := hy2 (by omega)
        clear hy1 hy2
        by_cases hle : b ≤ x
        · go_wp2_with (first
            | (at_builtin; refine wpList_append_dig rfl (.tmp 35) (.tmp 37) rfl w.heap.size _ o rfl _ (x - (b + 0)) (by omega) wr rfl rfl hown hsz (by omega) ?_; intro v' w2 hown2 hbl2))
          go_roundw
          case rel => exact ⟨k + 1, 0, o ++ [x - (b + 0)], by omega, by omega, by go_num, rfl, hown2, STP.out _ _ (.inl ⟨by omega, rfl, rfl⟩), hbl.trans hbl2⟩
          case measure => simp [intOf]; omega
        · go_wp2_with (first
            | (at_builtin; refine wpList_append_dig rfl (.tmp 35) (.tmp 37) rfl w.heap.size _ o rfl _ (x + 32768 - (b + 0)) (by omega) wr rfl rfl hown hsz (by omega) ?_; intro v' w2 hown2 hbl2))
          go_roundw
          case rel => exact ⟨k + 1, 1, o ++ [x + 32768 - (b + 0)], by omega, by omega, by go_num, rfl, hown2, STP.out _ _ (.inr ⟨by omega, rfl, rfl⟩), hbl.trans hbl2⟩
          case measure => simp [intOf]; omega
    · obtain rfl : k = xs.length := by omega
      clear STP hx1 hx2 hy1 hy2
      obtain ⟨a9, c9, e9, h9, r9⟩ := hown.rd
      subst e9
      go_wp2_with fail
      refine (rtrim_ds a9 c9 o wr (by omega) h9 r9).mono ?_
      rintro e w3 ⟨rfl, rfl⟩
      go_wp2
      go_ret
      obtain ⟨p1, p2, p3, p4⟩ := HP.out
      refine ⟨_, rfl, NatV.of_row R15_ge r9 h9 p2 _ ?_, hbl⟩
      have h1 := val_lt R15 R15_ge o p2
      rw [List.take_of_length_le (by omega), List.take_of_length_le (by omega), VA.out, VB.out] at p4
      rw [p1] at h1
      generalize R15 ^ xs.length = q at *
      rcases (show b = 0 ∨ b = 1 from by omega) with rfl | rfl <;> omega

end Go.Proofs.YtpjjbdpkhmeldaaDoor
