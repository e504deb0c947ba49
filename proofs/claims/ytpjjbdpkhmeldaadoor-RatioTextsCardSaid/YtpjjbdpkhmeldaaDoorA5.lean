/- contracts of ratio's mul -/
import Derived.Test.YtpjjbdpkhmeldaaDoorA4
namespace Go.Proofs.YtpjjbdpkhmeldaaDoor
open Go.RowKit

theorem mul_bounds {x y : Nat} (hx : x < 4294967296) (hy : y < 4294967296) : (x : Int) * (y : Int) ≤ 18446744065119617025 ∧ 0 ≤ (x : Int) * (y : Int) := by
  have : x * y ≤ 4294967295 * 4294967295 := Nat.mul_le_mul (by omega) (by omega)
  rw [← Int.natCast_mul]
  omega

/-- the rounds of the inner loop -/
def MulP (B : Nat) (xs ys : List Nat) (x i k cy : Nat) (o : List Nat) : Prop :=
  val B o + cy * B ^ (i + k) = val B (xs.take i) * val B ys + x * val B (ys.take k) * B ^ i ∧ ∀ j, i + ys.length ≤ j → j < o.length → o[j]? = some 0

theorem MulP.step {B : Nat} (hB : 2 ≤ B) {xs ys : List Nat} {x i k cy d : Nat} {o : List Nat} (h : MulP B xs ys x i k cy o) (hk : k < ys.length) (hik : i + k < o.length) (hd : o[i + k]? = some d) :
    MulP B xs ys x i (k + 1) ((cy + (x * ys[k] + d)) / B) (o.set (i + k) ((cy + (x * ys[k] + d)) % B)) := by
  obtain ⟨h1, h2⟩ := h
  have _hB := hB
  have hd' : o[i + k] = d := by rw [List.getElem?_eq_getElem hik] at hd; exact Option.some.inj hd
  refine ⟨?_, ?_⟩
  · have e := val_set B o (i + k) ((cy + (x * ys[k] + d)) % B) hik
    rw [hd'] at e
    rw [val_take_succ B ys k hk]
    have e2 := Nat.mod_add_div (cy + (x * ys[k] + d)) B
    generalize (cy + (x * ys[k] + d)) % B = r at *
    generalize hq : (cy + (x * ys[k] + d)) / B = q at *
    generalize val B (o.set (i + k) r) = V at *
    generalize val B o = U at *
    generalize val B (xs.take i) * val B ys = S at *
    generalize val B (ys.take k) = T at *
    generalize ys[k] = y at *
    rw [show i + (k + 1) = i + k + 1 from by omega, Nat.pow_succ]
    have e3 : B ^ (i + k) = B ^ i * B ^ k := Nat.pow_add _ _ _
    have e4 : (r + B * q) * B ^ (i + k) = (cy + (x * y + d)) * B ^ (i + k) := by rw [e2]
    have e5 : x * (T + y * B ^ k) * B ^ i = x * T * B ^ i + x * y * B ^ (i + k) := by rw [e3]; grind
    rw [e5]
    generalize B ^ (i + k) = p at *
    generalize x * T * B ^ i = Z at *
    grind
  · intro j hj hjl
    rw [List.getElem?_set_ne (by omega)]
    exact h2 j hj (by simpa using hjl)

theorem MulP.start {B : Nat} {xs ys : List Nat} {i : Nat} {o : List Nat} (h1 : val B o = val B (xs.take i) * val B ys) (h2 : ∀ j, i + ys.length ≤ j → j < o.length → o[j]? = some 0) (x : Nat) : MulP B xs ys x i 0 0 o := by
  refine ⟨?_, h2⟩
  simp [h1]

theorem MulP.fin {B : Nat} {xs ys : List Nat} {x i cy : Nat} {o : List Nat} (h : MulP B xs ys x i ys.length cy o) (hx : xs[i]? = some x) (ho : i + ys.length < o.length) :
    val B (o.set (i + ys.length) cy) = val B (xs.take (i + 1)) * val B ys ∧ ∀ j, i + 1 + ys.length ≤ j → j < (o.set (i + ys.length) cy).length → (o.set (i + ys.length) cy)[j]? = some 0 := by
  obtain ⟨h1, h2⟩ := h
  have h0 := h2 (i + ys.length) (Nat.le_refl _) ho
  have h0' : o[i + ys.length] = 0 := by rw [List.getElem?_eq_getElem ho] at h0; exact Option.some.inj h0
  have hi : i < xs.length := by
    rcases Nat.lt_or_ge i xs.length with h | h
    · exact h
    · rw [List.getElem?_eq_none h] at hx; cases hx
  have hx' : xs[i] = x := by rw [List.getElem?_eq_getElem hi] at hx; exact Option.some.inj hx
  refine ⟨?_, ?_⟩
  · have e := val_set B o (i + ys.length) cy ho
    rw [h0'] at e
    rw [val_take_succ B xs i hi, hx']
    rw [List.take_length] at h1
    grind
  · intro j hj hjl
    rw [List.getElem?_set_ne (by omega)]
    exact h2 j (by omega) (by simpa using hjl)

set_option maxHeartbeats 2000000 in
theorem mul_any (va vb : Value) (m n : Nat) (w : World) (ha : NatV w .u32 W32 va m) (hb : NatV w .u32 W32 vb n) (hma : (digs W32 m).length ≤ 100000) (hmb : (digs W32 n).length ≤ 100000) :
    Calls Tryd.prog 32 #[va, vb] w fun e w' => ∃ v, e = .returned v ∧ NatV w' .u32 W32 v (m * n) ∧ Below w.heap.size w w' := by
  obtain ⟨aa, ca, rfl, hca, ra⟩ := ha
  obtain ⟨ab, cb, rfl, hcb, rb⟩ := hb
  have va := val_digs W32 W32_ge m
  have vb := val_digs W32 W32_ge n
  have la := digs_lt32 m
  have lb := digs_lt32 n
  generalize digs W32 m = xs at *
  generalize digs W32 n = ys at *
  have VA := Lib.hid va; have VB := Lib.hid vb; have LA := Lib.hid la; have LB := Lib.hid lb
  clear va vb la lb
  go_enter Tryd.func32, Tryd.ntmps32
  go_wp2_with (first
    | (at_make; refine wpList_make_row _ rfl (.tmp 15) (.tmp 15) 42 rfl 65 .u32 4 (by kernel_rfl) u32_type .i64 .i64 _ _ (xs.length + ys.length) rfl rfl (by omega) (by omega) (by omega) (by omega) ?_; intro w1 hB1 hb1 hs1))
  have inv0 : RowI 65 .u32 W32 w w1 w.heap.size (xs.length + ys.length) (fun o => val W32 o = val W32 (xs.take 0) * val W32 ys ∧ ∀ j, 0 + ys.length ≤ j → j < o.length → o[j]? = some 0) :=
    RowI.mk' (Nat.le_refl _) hb1 _ (by simp) (by intro d hd; rw [List.mem_replicate] at hd; unfold W32; omega) ⟨by rw [val_replicate_zero]; simp, by intro j h1 h2; rw [List.length_replicate] at h2; rw [List.getElem?_replicate, if_pos h2]⟩ hB1
  clear hB1 hb1 hs1
  obtain ⟨bo, hbo⟩ : ∃ bo, bo = w.heap.size := ⟨_, rfl⟩
  rw [← hbo] at inv0
  rw [← hbo]
  clear hbo
  go_loopw [19] (fun s19 wr => ∃ i : Nat, i ≤ xs.length ∧ s19 = .int .i64 i ∧ RowI 65 .u32 W32 w wr bo (xs.length + ys.length) (fun o => val W32 o = val W32 (xs.take i) * val W32 ys ∧ ∀ j, i + ys.length ≤ j → j < o.length → o[j]? = some 0)) (fun s19 _ => xs.length - (intOf s19).toNat)
  case atStart => exact ⟨0, by omega, rfl, inv0⟩
  case round =>
    obtain ⟨i, hi, rfl, inv⟩ := hrel
    clear inv0
    by_cases hlt : i < xs.length
    · have hbl := inv.below
      obtain ⟨b1, o1, rfl, hb1, hc1⟩ := ra i hlt
      rw [← hbl.cell (p := ⟨b1, o1 + i, none⟩) hb1] at hc1
      have hx : xs[i] < 4294967296 := LA.out _ (List.getElem_mem _)
      have hxi : xs[i]? = some xs[i] := List.getElem?_eq_getElem hlt
      generalize xs[i] = x at *
      have HXI := Lib.hid hxi
      clear hxi
      have inv1 := inv.weaken (q := MulP W32 xs ys x i 0 0) (fun o _ _ h => MulP.start h.1 h.2 x)
      obtain ⟨wo, hwo⟩ : ∃ wo : World, wo = wr := ⟨_, rfl⟩
      subst hwo
      go_wp2
      go_loopw [26, 8] (fun s26 s8 wr => ∃ k cy : Nat, k ≤ ys.length ∧ cy < 4294967296 ∧ s26 = .int .i64 k ∧ s8 = .int .u64 cy ∧ RowI 65 .u32 W32 w wr bo (xs.length + ys.length) (MulP W32 xs ys x i k cy)) (fun s26 _ _ => ys.length - (intOf s26).toNat)
      case atStart => exact ⟨0, 0, by omega, by omega, rfl, rfl, inv1⟩
      case round =>
        obtain ⟨k, cy, hk, hcy, rfl, rfl, inv2⟩ := hrel
        clear inv inv1
        by_cases hlt2 : k < ys.length
        · obtain ⟨d, hd, hcc, hfo, inv3⟩ := inv2.at_ (i + k) (by omega)
          have hbl2 := inv2.below
          obtain ⟨b2, o2, rfl, hb2, hc2⟩ := rb k hlt2
          rw [← hbl2.cell (p := ⟨b2, o2 + k, none⟩) hb2] at hc2
          have hy : ys[k] < 4294967296 := LB.out _ (List.getElem_mem _)
          obtain ⟨m1, m2⟩ := mul_bounds hx hy
          have hd' : d < 4294967296 := hd
          have stp := fun (o : List Nat) (h : MulP W32 xs ys x i k cy o) (h1 : i + k < o.length) (h2 : o[i + k]? = some d) => MulP.step W32_ge h hlt2 h1 h2
          have STP := Lib.hid stp
          clear stp inv2
          generalize ys[k] = y at *
          go_wp2
          go_roundw
          case rel =>
            rw [← Int.natCast_mul] at m1
            refine ⟨k + 1, (cy + (x * y + d)) / 4294967296, by omega, by omega, by go_num, ?_, ?_⟩
            · rw [← Int.natCast_mul]; congr 1
            · refine inv3.set (i + k) ((cy + (x * y + d)) % 4294967296) _ (by rw [← Int.natCast_mul]; omega) (by unfold W32; omega) (fun o ho _ hp => STP.out o hp.1 (by omega) hp.2)
          case measure => simp [intOf]; omega
        · obtain rfl : k = ys.length := by omega
          obtain ⟨d, hd, hcc, hfo, inv3⟩ := inv2.at_ (i + ys.length) (by omega)
          go_wp2
          go_roundw
          case rel =>
            refine ⟨i + 1, by omega, by go_num, ?_⟩
            exact inv2.set (i + ys.length) cy _ (by omega) (by unfold W32; omega) (fun o ho _ hp => MulP.fin hp HXI.out (by omega))
          case measure => simp [intOf]; omega
    · obtain rfl : i = xs.length := by omega
      obtain ⟨o, hol, hod, ⟨hp1, hp2⟩, hob, hbl⟩ := inv.facts
      have hov : val W32 o = m * n := by
        rw [List.take_length, VA.out, VB.out] at hp1
        exact hp1
      have HOV := Lib.hid hov; have HOD := Lib.hid hod; have HOL := Lib.hid hol
      clear hov hod hp1 hp2 inv
      have hol1 : o.length ≤ xs.length + ys.length := by omega
      clear hol
      go_wp2_with fail
      rw [show xs.length + ys.length = o.length from HOL.out.symm]
      refine (trim_ds (some ⟨bo, 0, none⟩) o.length o _ (by omega) (by omega) hob.rd).mono ?_
      rintro e w' ⟨rfl, rfl⟩
      go_wp2
      go_ret
      exact ⟨_, rfl, NatV.of_row W32_ge hob.rd (Nat.le_refl _) HOD.out _ HOV.out, hbl⟩

end Go.Proofs.YtpjjbdpkhmeldaaDoor
