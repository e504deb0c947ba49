/- contracts of the reference's digits, text, Show -/
import Derived.Test.YtpjjbdpkhmeldaaDoorT3
import Derived.Test.YtpjjbdpkhmeldaaDoorR5
namespace Go.Proofs.YtpjjbdpkhmeldaaDoor
open Go.RowKit

/-- the digits, none for zero -/
def digZ (n : Nat) : List UInt8 := if n = 0 then [] else Lib.decDigits n
theorem digZ_step (k : Nat) (h : 0 < k) : digZ k = digZ (k / 10) ++ [UInt8.ofNat (48 + k % 10)] := by
  unfold digZ
  rw [if_neg (by omega)]
  by_cases h1 : k < 10
  · rw [if_pos (show k / 10 = 0 by omega), Lib.decDigits_one h1]
    have : k % 10 = k := by omega
    rw [this]; rfl
  · rw [if_neg (show ¬ k / 10 = 0 by omega), dec_big k h1]
theorem digZ_len (n : Nat) : (digZ n).length ≤ (Lib.decDigits n).length := by
  unfold digZ; split
  · simp
  · exact Nat.le_refl _

theorem NatV.one {w : World} {v : Value} {r : Nat} (h : NatV w .i64 R15 v r) (h0 : 0 < r) (h1 : r < 32768) : ∃ b off c, v = .slice (some ⟨b, off, none⟩) 1 c ∧ 1 ≤ c ∧ w.cell? ⟨b, off, none⟩ = some (.int .i64 r) := by
  obtain ⟨a, c, e, hc, hr⟩ := h
  have hd : digs R15 r = [r] := by
    rw [digs_pos R15 r R15_ge h0]
    have e1 : r % R15 = r := Nat.mod_eq_of_lt (by unfold R15; omega)
    have e2 : r / R15 = 0 := Nat.div_eq_of_lt (by unfold R15; omega)
    rw [e1, e2, digs_zero]
  rw [hd] at e hc hr
  obtain ⟨b, off, ha, _, h3⟩ := hr 0 (by simp)
  subst ha
  exact ⟨b, off, c, e, hc, h3⟩

theorem NatV.nil {w : World} {v : Value} (h : NatV w .i64 R15 v 0) : ∃ a c, v = .slice a 0 c := by
  obtain ⟨a, c, e, _, _⟩ := h
  rw [digs_zero] at e
  exact ⟨a, c, e⟩

theorem conv1 (w : World) (b off cap : Nat) (u : Nat) (h : w.cell? ⟨b, off, none⟩ = some (.int .u8 u)) : (convert 87 9 (.slice (some ⟨b, off, none⟩) 1 cap)).run Tryd.prog w = .ok (.string ⟨#[UInt8.ofNat u]⟩) w := by
  rw [run_convert_bytes_arg w 87 _ Tryd.underlying87 (by kernel_rfl) b off 1 cap [(u : Int)] rfl (fun i hi => by
    obtain rfl : i = 0 := by omega
    exact h) 9 Tryd.underlying9]
  rfl

theorem conv2 (w : World) (u : Nat) (x : Int) (hx : x = u) : (convert 87 9 (.slice (some ⟨w.heap.size, 0, none⟩) 1 1)).run Tryd.prog (w.alloc (Obj.cells #[.int .u8 x] 5)) = .ok (.string ⟨#[UInt8.ofNat u]⟩) (w.alloc (Obj.cells #[.int .u8 x] 5)) := by
  subst hx
  exact conv1 _ _ _ _ u (by simp [go_sem])

def DzS (w : World) (s0 : Value) (k : Nat) (wr : World) : Prop := NatV wr .i64 R15 s0 k ∧ Below w.heap.size w wr
theorem DzS.step {w : World} {s0 : Value} {k : Nat} {w1 w2 : World} (hb : Below w1.heap.size w1 w2) (h : DzS w s0 k w1) : DzS w s0 k w2 := ⟨h.1.below hb, h.2.trans (hb.mono h.2.size)⟩

set_option maxRecDepth 20000 in
set_option maxHeartbeats 2000000 in
theorem rdigits_any (va : Value) (n : Nat) (w : World) (ha : NatV w .i64 R15 va n) (hl : (digs R15 n).length ≤ 1000) (hd : (Lib.decDigits n).length ≤ 1000) :
    Calls Tryd.prog 44 #[va] w fun e w' => ∃ s : ByteArray, e = .returned (.string s) ∧ s.data.toList = Lib.decDigits n ∧ Below w.heap.size w w' := by
  obtain ⟨a0, c0, e0⟩ := ha.shape
  subst e0
  have hS0 : DzS w _ n w := ⟨ha, Below.refl _ _⟩
  clear ha
  have CD := Lib.hid (fun va vb k wx h1 h2 (h3 : (digs R15 k).length ≤ 1000) => rdiv_any va vb k 10 wx h1 h2 (by omega) (Nat.le_trans (digs_length_le R15 R15_ge 10 1 (by unfold R15; omega)) (by omega)) (by omega))
  go_enter Tryd.func44, Tryd.ntmps44
  go_wp2
  go_loopw [0, 3] (fun s0 s3 wr => ∃ (k : Nat) (t : ByteArray), k ≤ n ∧ s3 = .string t ∧ DzS w s0 k wr ∧ Hid (digZ k ++ t.data.toList = digZ n)) (fun s0 _ wr => numOfR wr s0)
  case atStart => exact ⟨n, ⟨#[]⟩, Nat.le_refl _, rfl, hS0, by show _ ++ [] = _; rw [List.append_nil]⟩
  case round =>
    obtain ⟨k, t, hk, rfl, hS, HT⟩ := hrel
    clear hS0
    have HN := Lib.hid (numOfR_eq hS.1)
    have hkl := lenR_le k n hk 1000 hl
    have htl : t.size ≤ 1000 := by
      have := congrArg List.length HT.out
      rw [List.length_append, sz_len] at this
      have h2 := digZ_len n
      omega
    rcases Nat.eq_zero_or_pos k with h0 | h0
    · subst h0
      obtain ⟨a1, c1, e1⟩ := hS.1.shape
      rw [digs_zero] at e1
      subst e1
      have htt : t.data.toList = digZ n := HT.out
      have HTT := Lib.hid htt
      clear HT htt
      by_cases hn0 : n = 0
      · have hte : t = ⟨#[]⟩ := by
          have h := HTT.out
          unfold digZ at h
          rw [if_pos hn0] at h
          cases t with
          | mk d => cases d with
            | mk l => simp at h; subst h; rfl
        subst hte
        go_wp2
        go_ret
        refine ⟨_, rfl, ?_, hS.2⟩
        (try rw [hn0])
        rw [Lib.decDigits_one (by omega)]; rfl
      · have hte : (t.toList == []) = false := by
          rw [toList_data, HTT.out]
          unfold digZ
          rw [if_neg hn0]
          exact beq_eq_false_iff_ne.2 (dec_ne n)
        have hte2 : ¬ t.toList = [] := beq_eq_false_iff_ne.1 hte
        go_wp2
        go_ret
        refine ⟨_, rfl, ?_, hS.2⟩
        rw [HTT.out]
        unfold digZ
        rw [if_neg hn0]
    · have hst := digZ_step k h0
      have hlen : 0 < (digs R15 k).length := by rw [digs_pos R15 k R15_ge h0]; simp
      obtain ⟨a1, c1, e1⟩ := hS.1.shape
      obtain ⟨L, hL⟩ : ∃ L, L = (digs R15 k).length := ⟨_, rfl⟩
      subst e1
      rw [← hL] at hS hlen HN
      rw [← hL]
      clear hL
      have hS1 : DzS w (.slice a1 L c1) k (wr.alloc (Obj.cells #[.int .i64 10] 3)) := hS.step ((Below.refl _ _).alloc (Nat.le_refl _) _)
      have h10 : NatV (wr.alloc (Obj.cells #[.int .i64 10] 3)) .i64 R15 (.slice (some ⟨wr.heap.size, 0, none⟩) 1 1) 10 := by
        have h := NatV.litR wr 10 (by omega)
        have e : (digs R15 10).length = 1 := by decide +kernel
        rw [e] at h; exact h
      have HH := Lib.hid h10
      have hS1H := Lib.hid hS1
      clear h10 hS1 hS
      go_wp2_with fail
      refine (CD.out _ _ _ _ hS1H.out.1 HH.out hkl).mono ?_
      rintro e w2 ⟨v1, v2, rfl, n1, n2, hb2⟩
      have hS2 := hS1H.out.step hb2
      clear hS1H HH
      have HST := Lib.hid hst
      clear hst
      have hm10 : k % 10 < 10 := Nat.mod_lt _ (by omega)
      have n0 : NatV w2 .i64 R15 v1 (k / 10) := n1
      obtain ⟨a3, c3, e3⟩ := n0.shape
      obtain ⟨L3, hL3⟩ : ∃ x, x = (digs R15 (k / 10)).length := ⟨_, rfl⟩
      rw [← hL3] at e3
      clear hL3 n1
      subst e3
      rcases Nat.eq_zero_or_pos (k % 10) with hr | hr
      · rw [hr] at n2
        have HR := Lib.hid hr
        clear hr
        obtain ⟨a2, c2, e2⟩ := n2.nil
        subst e2
        obtain ⟨t2, ht2⟩ : ∃ x : ByteArray, x = (⟨#[UInt8.ofNat (48 + k % 10)]⟩ : ByteArray) ++ t := ⟨_, rfl⟩
        obtain ⟨sd, hsd⟩ : ∃ x : ByteArray, x = (⟨#[UInt8.ofNat (48 + k % 10)]⟩ : ByteArray) := ⟨_, rfl⟩
        rw [← hsd] at ht2
        have hadd := addStr sd t t2 ht2.symm (by rw [hsd]; show 1 ≤ _; omega) (by omega)
        have HT2 : Hid (digZ (k / 10) ++ t2.data.toList = digZ n) := Lib.hid (by
          rw [← HT.out, HST.out, ht2, ByteArray.data_append, hsd, Array.toList_append]
          simp)
        have hconv := conv2 w2 (48 + k % 10) (48) (by rw [HR.out]; rfl)
        rw [← hsd] at hconv
        clear hsd ht2
        go_wp2
        go_roundw
        case rel => exact ⟨k / 10, t2, by omega, rfl, DzS.step ((Below.refl _ _).alloc (Nat.le_refl _) _) ⟨n0, hS2.2⟩, HT2⟩
        case measure =>
          show numOfR _ _ < numOfR _ _
          have n9 := n0.below ((Below.refl w2.heap.size w2).alloc (Nat.le_refl _) (Obj.cells #[.int .u8 (48)] 5))
          rw [HN.out, numOfR_eq n9]
          omega
      · obtain ⟨b, off, c, e2, hc, hcell⟩ := n2.one hr (by omega)
        subst e2
        obtain ⟨r, hr2⟩ : ∃ r, r = k % 10 := ⟨_, rfl⟩
        rw [← hr2] at hcell hm10 hr
        have HR := Lib.hid hr2
        clear hr2
        obtain ⟨t2, ht2⟩ : ∃ x : ByteArray, x = (⟨#[UInt8.ofNat (48 + k % 10)]⟩ : ByteArray) ++ t := ⟨_, rfl⟩
        obtain ⟨sd, hsd⟩ : ∃ x : ByteArray, x = (⟨#[UInt8.ofNat (48 + k % 10)]⟩ : ByteArray) := ⟨_, rfl⟩
        rw [← hsd] at ht2
        have hadd := addStr sd t t2 ht2.symm (by rw [hsd]; show 1 ≤ _; omega) (by omega)
        have HT2 : Hid (digZ (k / 10) ++ t2.data.toList = digZ n) := Lib.hid (by
          rw [← HT.out, HST.out, ht2, ByteArray.data_append, hsd, Array.toList_append]
          simp)
        have hconv := conv2 w2 (48 + k % 10) (48 + (r : Int)) (by rw [← HR.out]; omega)
        rw [← hsd] at hconv
        clear hsd ht2
        go_wp2
        go_roundw
        case rel => exact ⟨k / 10, t2, by omega, rfl, DzS.step ((Below.refl _ _).alloc (Nat.le_refl _) _) ⟨n0, hS2.2⟩, HT2⟩
        case measure =>
          show numOfR _ _ < numOfR _ _
          have n9 := n0.below ((Below.refl w2.heap.size w2).alloc (Nat.le_refl _) (Obj.cells #[.int .u8 (48 + (r : Int))] 5))
          rw [HN.out, numOfR_eq n9]
          omega

/-- the fraction's box -/
def TxS (w : World) (g : Bool) (v1 v2 : Value) (m n : Nat) (w' : World) : Prop := Below w.heap.size w w' ∧ Box w' w.heap.size 54 [.bool g, v1, v2] ∧ NatV w' .i64 R15 v1 m ∧ NatV w' .i64 R15 v2 n
theorem TxS.step {w : World} {g : Bool} {v1 v2 : Value} {m n : Nat} {w1 w2 : World} (hb : Below w1.heap.size w1 w2) (h : TxS w g v1 v2 m n w1) : TxS w g v1 v2 m n w2 := by
  obtain ⟨h1, h2, h3, h4⟩ := h
  exact ⟨h1.trans (hb.mono h1.size), h2.below hb, h3.below hb, h4.below hb⟩
theorem TxS.start {w : World} {g : Bool} {v1 v2 : Value} {m n : Nat} (h1 : NatV w .i64 R15 v1 m) (h2 : NatV w .i64 R15 v2 n) : TxS w g v1 v2 m n (w.alloc (Obj.cells #[.bool g, v1, v2] 54)) :=
  ⟨(Below.refl _ _).alloc (Nat.le_refl _) _, Box.made w 54 _, h1.below ((Below.refl _ _).alloc (Nat.le_refl _) _), h2.below ((Below.refl _ _).alloc (Nat.le_refl _) _)⟩
theorem TxS.cells {w : World} {g : Bool} {v1 v2 : Value} {m n : Nat} {w' : World} (h : TxS w g v1 v2 m n w') :
    w'.cell? ⟨w.heap.size, 0, none⟩ = some (.bool g) ∧ w'.cell? ⟨w.heap.size, 1, none⟩ = some v1 ∧ w'.cell? ⟨w.heap.size, 2, none⟩ = some v2 ∧ NatV w' .i64 R15 v1 m ∧ NatV w' .i64 R15 v2 n ∧ Below w.heap.size w w' :=
  ⟨h.2.1.cell 0 _ rfl, h.2.1.cell 1 _ rfl, h.2.1.cell 2 _ rfl, h.2.2.1, h.2.2.2, h.1⟩

set_option maxHeartbeats 1000000 in
theorem rtext_to (v : Value) (m n : Nat) (w : World) (h : FracR w v true m n) (hm : (digs R15 m).length ≤ 1000) (hn : (digs R15 n).length ≤ 1000) (hdm : (Lib.decDigits m).length ≤ 100) (hdn : (Lib.decDigits n).length ≤ 100) (h1 : n = 1) :
    Calls Tryd.prog 24 #[v] w fun e w' => ∃ s : ByteArray, e = .returned (.string s) ∧ s.data.toList = textS true m n ∧ Below w.heap.size w w' := by
  obtain ⟨v1, v2, rfl, n1, n2⟩ := h
  obtain ⟨a1, c1, e1⟩ := n1.shape
  obtain ⟨a2, c2, e2⟩ := n2.shape
  subst e1
  subst e2
  have hS := TxS.start (g := true) n1 n2
  clear n1 n2
  have RD1 := Lib.hid (fun va wx hx => rdigits_any va m wx hx hm (by omega))
  have RD2 := Lib.hid (fun va wx hx => rdigits_any va n wx hx hn (by omega))
  have CC : Hid (∀ va vb wx, NatV wx .i64 R15 va n → NatV wx .i64 R15 vb 1 → Calls Tryd.prog 45 #[va, vb] wx fun e w' => e = .returned (.int .i64 (cmpN n 1)) ∧ Below wx.heap.size wx w') := Lib.hid (fun va vb wx x1 x2 => rcmp_any va vb n 1 wx x1 x2 (by omega) (by rw [digs1]; omega))
  obtain ⟨L1, hL1⟩ : ∃ x, x = (digs R15 m).length := ⟨_, rfl⟩
  obtain ⟨L2, hL2⟩ : ∃ x, x = (digs R15 n).length := ⟨_, rfl⟩
  rw [← hL1, ← hL2] at hS
  rw [← hL1, ← hL2]
  clear hL1 hL2 hm hn
  obtain ⟨K, hK⟩ : ∃ K, K = cmpN n 1 := ⟨_, rfl⟩
  rw [← hK] at CC
  have hK2 : (K != 0) = false := by
    rw [hK]
    subst h1; rfl
  have H1 := Lib.hid h1
  clear hK h1
  go_enter Tryd.func24, Tryd.ntmps24
  obtain ⟨z1, z2, z3, m1, m2, hb0⟩ := hS.cells
  go_wp2_with fail
  refine (RD1.out _ _ m1).mono ?_
  rintro e w1 ⟨sA, rfl, hA, hb1⟩
  replace hS := hS.step hb1
  clear hb1 hb0 m1 m2 z1 z2 z3
  obtain ⟨z1, z2, z3, m1, m2, hb0⟩ := hS.cells
  have zA : sA.size ≤ 100 := by rw [← sz_len, hA]; exact hdm
  obtain ⟨sB, hB⟩ : ∃ x : ByteArray, (⟨#[45]⟩ : ByteArray) ++ sA = x := ⟨_, rfl⟩
  have hadd1 := addStr ⟨#[45]⟩ sA sB hB (by decide) (by omega)
  have zB : sB.size ≤ 101 := by rw [← hB, ByteArray.size_append]; have : (⟨#[45]⟩ : ByteArray).size = 1 := rfl; omega
  have HB := Lib.hid hB
  clear hB
  have HA := Lib.hid hA
  clear hA
  have hS2 := hS.step ((Below.refl w1.heap.size w1).alloc (Nat.le_refl _) (Obj.cells #[.int .i64 1] 3))
  have o1 := NatV.litR w1 1 (by omega)
  rw [digs1] at o1
  go_wp2_with fail
  refine (CC.out _ _ _ hS2.2.2.2 o1).mono ?_
  rintro e w2 ⟨rfl, hb2⟩
  replace hS := hS2.step hb2
  clear hb2 hb0 m1 m2 z1 z2 z3 hS2 o1
  obtain ⟨z1, z2, z3, m1, m2, hb0⟩ := hS.cells
  go_wp2
  go_ret
  refine ⟨_, rfl, ?_, hb0⟩
  rw [← HB.out, ByteArray.data_append, Array.toList_append, HA.out]
  unfold textS
  rw [if_pos H1.out, List.append_nil]
  rfl

set_option maxHeartbeats 1000000 in
theorem rtext_tm (v : Value) (m n : Nat) (w : World) (h : FracR w v true m n) (hm : (digs R15 m).length ≤ 1000) (hn : (digs R15 n).length ≤ 1000) (hdm : (Lib.decDigits m).length ≤ 100) (hdn : (Lib.decDigits n).length ≤ 100) (h1 : n ≠ 1) :
    Calls Tryd.prog 24 #[v] w fun e w' => ∃ s : ByteArray, e = .returned (.string s) ∧ s.data.toList = textS true m n ∧ Below w.heap.size w w' := by
  obtain ⟨v1, v2, rfl, n1, n2⟩ := h
  obtain ⟨a1, c1, e1⟩ := n1.shape
  obtain ⟨a2, c2, e2⟩ := n2.shape
  subst e1
  subst e2
  have hS := TxS.start (g := true) n1 n2
  clear n1 n2
  have RD1 := Lib.hid (fun va wx hx => rdigits_any va m wx hx hm (by omega))
  have RD2 := Lib.hid (fun va wx hx => rdigits_any va n wx hx hn (by omega))
  have CC : Hid (∀ va vb wx, NatV wx .i64 R15 va n → NatV wx .i64 R15 vb 1 → Calls Tryd.prog 45 #[va, vb] wx fun e w' => e = .returned (.int .i64 (cmpN n 1)) ∧ Below wx.heap.size wx w') := Lib.hid (fun va vb wx x1 x2 => rcmp_any va vb n 1 wx x1 x2 (by omega) (by rw [digs1]; omega))
  obtain ⟨L1, hL1⟩ : ∃ x, x = (digs R15 m).length := ⟨_, rfl⟩
  obtain ⟨L2, hL2⟩ : ∃ x, x = (digs R15 n).length := ⟨_, rfl⟩
  rw [← hL1, ← hL2] at hS
  rw [← hL1, ← hL2]
  clear hL1 hL2 hm hn
  obtain ⟨K, hK⟩ : ∃ K, K = cmpN n 1 := ⟨_, rfl⟩
  rw [← hK] at CC
  have hK2 : (K != 0) = true := by
    rw [hK]
    refine bne_iff_ne.2 ?_
    unfold cmpN
    split
    · omega
    · split <;> omega
  have H1 := Lib.hid h1
  clear hK h1
  go_enter Tryd.func24, Tryd.ntmps24
  obtain ⟨z1, z2, z3, m1, m2, hb0⟩ := hS.cells
  go_wp2_with fail
  refine (RD1.out _ _ m1).mono ?_
  rintro e w1 ⟨sA, rfl, hA, hb1⟩
  replace hS := hS.step hb1
  clear hb1 hb0 m1 m2 z1 z2 z3
  obtain ⟨z1, z2, z3, m1, m2, hb0⟩ := hS.cells
  have zA : sA.size ≤ 100 := by rw [← sz_len, hA]; exact hdm
  obtain ⟨sB, hB⟩ : ∃ x : ByteArray, (⟨#[45]⟩ : ByteArray) ++ sA = x := ⟨_, rfl⟩
  have hadd1 := addStr ⟨#[45]⟩ sA sB hB (by decide) (by omega)
  have zB : sB.size ≤ 101 := by rw [← hB, ByteArray.size_append]; have : (⟨#[45]⟩ : ByteArray).size = 1 := rfl; omega
  have HB := Lib.hid hB
  clear hB
  have HA := Lib.hid hA
  clear hA
  have hS2 := hS.step ((Below.refl w1.heap.size w1).alloc (Nat.le_refl _) (Obj.cells #[.int .i64 1] 3))
  have o1 := NatV.litR w1 1 (by omega)
  rw [digs1] at o1
  go_wp2_with fail
  refine (CC.out _ _ _ hS2.2.2.2 o1).mono ?_
  rintro e w2 ⟨rfl, hb2⟩
  replace hS := hS2.step hb2
  clear hb2 hb0 m1 m2 z1 z2 z3 hS2 o1
  obtain ⟨z1, z2, z3, m1, m2, hb0⟩ := hS.cells
  obtain ⟨sC, hC⟩ : ∃ x : ByteArray, sB ++ ⟨#[47]⟩ = x := ⟨_, rfl⟩
  have hadd2 := addStr sB ⟨#[47]⟩ sC hC (by omega) (by decide)
  have zC : sC.size ≤ 102 := by rw [← hC, ByteArray.size_append]; have : (⟨#[47]⟩ : ByteArray).size = 1 := rfl; omega
  have HC := Lib.hid hC
  clear hC
  go_wp2_with fail
  refine (RD2.out _ _ m2).mono ?_
  rintro e w3 ⟨sD, rfl, hD, hb3⟩
  replace hS := hS.step hb3
  have zD : sD.size ≤ 100 := by rw [← sz_len, hD]; exact hdn
  obtain ⟨sE, hE⟩ : ∃ x : ByteArray, sC ++ sD = x := ⟨_, rfl⟩
  have hadd3 := addStr sC sD sE hE (by omega) (by omega)
  have HD := Lib.hid hD
  have HE := Lib.hid hE
  clear hD hE
  go_wp2
  go_ret
  refine ⟨_, rfl, ?_, hS.1⟩
  rw [← HE.out, ByteArray.data_append, Array.toList_append, ← HC.out, ByteArray.data_append, Array.toList_append, HD.out]
  rw [← HB.out, ByteArray.data_append, Array.toList_append, HA.out]
  unfold textS
  rw [if_neg H1.out]
  simp

set_option maxHeartbeats 1000000 in
theorem rtext_fo (v : Value) (m n : Nat) (w : World) (h : FracR w v false m n) (hm : (digs R15 m).length ≤ 1000) (hn : (digs R15 n).length ≤ 1000) (hdm : (Lib.decDigits m).length ≤ 100) (hdn : (Lib.decDigits n).length ≤ 100) (h1 : n = 1) :
    Calls Tryd.prog 24 #[v] w fun e w' => ∃ s : ByteArray, e = .returned (.string s) ∧ s.data.toList = textS false m n ∧ Below w.heap.size w w' := by
  obtain ⟨v1, v2, rfl, n1, n2⟩ := h
  obtain ⟨a1, c1, e1⟩ := n1.shape
  obtain ⟨a2, c2, e2⟩ := n2.shape
  subst e1
  subst e2
  have hS := TxS.start (g := false) n1 n2
  clear n1 n2
  have RD1 := Lib.hid (fun va wx hx => rdigits_any va m wx hx hm (by omega))
  have RD2 := Lib.hid (fun va wx hx => rdigits_any va n wx hx hn (by omega))
  have CC : Hid (∀ va vb wx, NatV wx .i64 R15 va n → NatV wx .i64 R15 vb 1 → Calls Tryd.prog 45 #[va, vb] wx fun e w' => e = .returned (.int .i64 (cmpN n 1)) ∧ Below wx.heap.size wx w') := Lib.hid (fun va vb wx x1 x2 => rcmp_any va vb n 1 wx x1 x2 (by omega) (by rw [digs1]; omega))
  obtain ⟨L1, hL1⟩ : ∃ x, x = (digs R15 m).length := ⟨_, rfl⟩
  obtain ⟨L2, hL2⟩ : ∃ x, x = (digs R15 n).length := ⟨_, rfl⟩
  rw [← hL1, ← hL2] at hS
  rw [← hL1, ← hL2]
  clear hL1 hL2 hm hn
  obtain ⟨K, hK⟩ : ∃ K, K = cmpN n 1 := ⟨_, rfl⟩
  rw [← hK] at CC
  have hK2 : (K != 0) = false := by
    rw [hK]
    subst h1; rfl
  have H1 := Lib.hid h1
  clear hK h1
  go_enter Tryd.func24, Tryd.ntmps24
  obtain ⟨z1, z2, z3, m1, m2, hb0⟩ := hS.cells
  go_wp2_with fail
  refine (RD1.out _ _ m1).mono ?_
  rintro e w1 ⟨sA, rfl, hA, hb1⟩
  replace hS := hS.step hb1
  clear hb1 hb0 m1 m2 z1 z2 z3
  obtain ⟨z1, z2, z3, m1, m2, hb0⟩ := hS.cells
  have zA : sA.size ≤ 100 := by rw [← sz_len, hA]; exact hdm
  have HA := Lib.hid hA
  clear hA
  have hS2 := hS.step ((Below.refl w1.heap.size w1).alloc (Nat.le_refl _) (Obj.cells #[.int .i64 1] 3))
  have o1 := NatV.litR w1 1 (by omega)
  rw [digs1] at o1
  go_wp2_with fail
  refine (CC.out _ _ _ hS2.2.2.2 o1).mono ?_
  rintro e w2 ⟨rfl, hb2⟩
  replace hS := hS2.step hb2
  clear hb2 hb0 m1 m2 z1 z2 z3 hS2 o1
  obtain ⟨z1, z2, z3, m1, m2, hb0⟩ := hS.cells
  go_wp2
  go_ret
  refine ⟨_, rfl, ?_, hb0⟩
  rw [HA.out]
  unfold textS
  rw [if_pos H1.out, List.append_nil]
  rfl

set_option maxHeartbeats 1000000 in
theorem rtext_fm (v : Value) (m n : Nat) (w : World) (h : FracR w v false m n) (hm : (digs R15 m).length ≤ 1000) (hn : (digs R15 n).length ≤ 1000) (hdm : (Lib.decDigits m).length ≤ 100) (hdn : (Lib.decDigits n).length ≤ 100) (h1 : n ≠ 1) :
    Calls Tryd.prog 24 #[v] w fun e w' => ∃ s : ByteArray, e = .returned (.string s) ∧ s.data.toList = textS false m n ∧ Below w.heap.size w w' := by
  obtain ⟨v1, v2, rfl, n1, n2⟩ := h
  obtain ⟨a1, c1, e1⟩ := n1.shape
  obtain ⟨a2, c2, e2⟩ := n2.shape
  subst e1
  subst e2
  have hS := TxS.start (g := false) n1 n2
  clear n1 n2
  have RD1 := Lib.hid (fun va wx hx => rdigits_any va m wx hx hm (by omega))
  have RD2 := Lib.hid (fun va wx hx => rdigits_any va n wx hx hn (by omega))
  have CC : Hid (∀ va vb wx, NatV wx .i64 R15 va n → NatV wx .i64 R15 vb 1 → Calls Tryd.prog 45 #[va, vb] wx fun e w' => e = .returned (.int .i64 (cmpN n 1)) ∧ Below wx.heap.size wx w') := Lib.hid (fun va vb wx x1 x2 => rcmp_any va vb n 1 wx x1 x2 (by omega) (by rw [digs1]; omega))
  obtain ⟨L1, hL1⟩ : ∃ x, x = (digs R15 m).length := ⟨_, rfl⟩
  obtain ⟨L2, hL2⟩ : ∃ x, x = (digs R15 n).length := ⟨_, rfl⟩
  rw [← hL1, ← hL2] at hS
  rw [← hL1, ← hL2]
  clear hL1 hL2 hm hn
  obtain ⟨K, hK⟩ : ∃ K, K = cmpN n 1 := ⟨_, rfl⟩
  rw [← hK] at CC
  have hK2 : (K != 0) = true := by
    rw [hK]
    refine bne_iff_ne.2 ?_
    unfold cmpN
    split
    · omega
    · split <;> omega
  have H1 := Lib.hid h1
  clear hK h1
  go_enter Tryd.func24, Tryd.ntmps24
  obtain ⟨z1, z2, z3, m1, m2, hb0⟩ := hS.cells
  go_wp2_with fail
  refine (RD1.out _ _ m1).mono ?_
  rintro e w1 ⟨sA, rfl, hA, hb1⟩
  replace hS := hS.step hb1
  clear hb1 hb0 m1 m2 z1 z2 z3
  obtain ⟨z1, z2, z3, m1, m2, hb0⟩ := hS.cells
  have zA : sA.size ≤ 100 := by rw [← sz_len, hA]; exact hdm
  have HA := Lib.hid hA
  clear hA
  have hS2 := hS.step ((Below.refl w1.heap.size w1).alloc (Nat.le_refl _) (Obj.cells #[.int .i64 1] 3))
  have o1 := NatV.litR w1 1 (by omega)
  rw [digs1] at o1
  go_wp2_with fail
  refine (CC.out _ _ _ hS2.2.2.2 o1).mono ?_
  rintro e w2 ⟨rfl, hb2⟩
  replace hS := hS2.step hb2
  clear hb2 hb0 m1 m2 z1 z2 z3 hS2 o1
  obtain ⟨z1, z2, z3, m1, m2, hb0⟩ := hS.cells
  obtain ⟨sC, hC⟩ : ∃ x : ByteArray, sA ++ ⟨#[47]⟩ = x := ⟨_, rfl⟩
  have hadd2 := addStr sA ⟨#[47]⟩ sC hC (by omega) (by decide)
  have zC : sC.size ≤ 102 := by rw [← hC, ByteArray.size_append]; have : (⟨#[47]⟩ : ByteArray).size = 1 := rfl; omega
  have HC := Lib.hid hC
  clear hC
  go_wp2_with fail
  refine (RD2.out _ _ m2).mono ?_
  rintro e w3 ⟨sD, rfl, hD, hb3⟩
  replace hS := hS.step hb3
  have zD : sD.size ≤ 100 := by rw [← sz_len, hD]; exact hdn
  obtain ⟨sE, hE⟩ : ∃ x : ByteArray, sC ++ sD = x := ⟨_, rfl⟩
  have hadd3 := addStr sC sD sE hE (by omega) (by omega)
  have HD := Lib.hid hD
  have HE := Lib.hid hE
  clear hD hE
  go_wp2
  go_ret
  refine ⟨_, rfl, ?_, hS.1⟩
  rw [← HE.out, ByteArray.data_append, Array.toList_append, ← HC.out, ByteArray.data_append, Array.toList_append, HD.out]
  rw [HA.out]
  unfold textS
  rw [if_neg H1.out]
  simp

theorem rtext_any (v : Value) (neg : Bool) (m n : Nat) (w : World) (h : FracR w v neg m n) (hm : (digs R15 m).length ≤ 1000) (hn : (digs R15 n).length ≤ 1000) (hdm : (Lib.decDigits m).length ≤ 100) (hdn : (Lib.decDigits n).length ≤ 100) :
    Calls Tryd.prog 24 #[v] w fun e w' => ∃ s : ByteArray, e = .returned (.string s) ∧ s.data.toList = textS neg m n ∧ Below w.heap.size w w' := by
  by_cases h1 : n = 1
  · cases neg
    · exact rtext_fo v m n w h hm hn hdm hdn h1
    · exact rtext_to v m n w h hm hn hdm hdn h1
  · cases neg
    · exact rtext_fm v m n w h hm hn hdm hdn h1
    · exact rtext_tm v m n w h hm hn hdm hdn h1

theorem dec_len (u : Nat) (h : u ≤ 4611686018427387904) : (Lib.decDigits u).length ≤ 100 := by
  rw [Lib.decDigits_length]
  have := nDigits_le u 18 (by omega)
  omega

set_option maxHeartbeats 1000000 in
theorem rshow_any (n d : Int) (w : World) (hn : I64 n) (hd : I64 d) :
    Calls Tryd.prog 8 #[.agg #[.int .i64 n, .int .i64 d]] w fun e w' => ∃ s : ByteArray, e = .returned (.string s) ∧ s.data.toList = showS n d ∧ Below w.heap.size w w' := by
  have hS := ShS.start w n d
  rcases Bool.eq_false_or_eq_true (validB n d) with hv | hv
  · obtain ⟨g1, g2, g3, g4, g5⟩ := validB_true hv
    have HV := Lib.hid hv
    have hT : showS n d = textS (decide (n < 0)) n.natAbs d.natAbs := by unfold showS; rw [hv]; rfl
    have HT := Lib.hid hT
    have RT := Lib.hid (fun v wx h => rtext_any v (decide (n < 0)) n.natAbs d.natAbs wx h (Nat.le_trans (lenR_62 _ (by omega)) (by omega)) (Nat.le_trans (lenR_62 _ (by omega)) (by omega)) (dec_len _ (by omega)) (dec_len _ (by omega)))
    clear hv g5 hT g1 g2 g3 g4
    go_enter Tryd.func8, Tryd.ntmps8
    go_wp2_with fail
    refine (rvalid_any n d true HV.out _ hn hd).mono ?_
    rintro e w1 ⟨rfl, hb⟩
    replace hS := hS.step hb
    clear hb
    obtain ⟨_, k0, k1⟩ := hS.all
    go_wp2_with fail
    refine (rwide_any n d _ hn hd).mono ?_
    rintro e w2 ⟨v, rfl, hf, hb⟩
    replace hS := hS.step hb
    clear hb
    go_wp2_with fail
    refine (RT.out _ _ hf).mono ?_
    rintro e w3 ⟨s, rfl, hs, hb⟩
    replace hS := hS.step hb
    have HS := Lib.hid hs
    clear hs hf
    go_wp2
    go_ret
    exact ⟨_, rfl, by rw [HS.out, HT.out], hS.1⟩
  · have hT : showS n d = [] := by unfold showS; rw [hv]; rfl
    have HT := Lib.hid hT
    have HV := Lib.hid hv
    clear hv hT
    go_enter Tryd.func8, Tryd.ntmps8
    go_wp2_with fail
    refine (rvalid_any n d false HV.out _ hn hd).mono ?_
    rintro e w1 ⟨rfl, hb⟩
    go_wp2
    go_ret
    exact ⟨_, rfl, by rw [HT.out], (hS.step hb).1⟩

end Go.Proofs.YtpjjbdpkhmeldaaDoor
