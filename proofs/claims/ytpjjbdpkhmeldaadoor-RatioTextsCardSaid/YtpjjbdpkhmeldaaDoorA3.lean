/- contracts of ratio's sub, shift, unshift, short -/
import Derived.Test.YtpjjbdpkhmeldaaDoorA2
namespace Go.Proofs.YtpjjbdpkhmeldaaDoor
open Go.RowKit

/-- a row of the call's own, of n digits to the base B, of which p is known -/
def RowI (T : TypeId) (k : IntKind) (B : Nat) (w wr : World) (bo n : Nat) (p : List Nat → Prop) : Prop :=
  w.heap.size ≤ bo ∧ Below w.heap.size w wr ∧ ∃ o : List Nat, o.length = n ∧ (∀ d ∈ o, d < B) ∧ p o ∧ Blk wr bo T k o

theorem RowI.mk' {T : TypeId} {k : IntKind} {B : Nat} {w wr : World} {bo n : Nat} {p : List Nat → Prop} (h1 : w.heap.size ≤ bo) (h2 : Below w.heap.size w wr) (o : List Nat) (h3 : o.length = n) (h4 : ∀ d ∈ o, d < B) (h5 : p o) (h6 : Blk wr bo T k o) :
    RowI T k B w wr bo n p := ⟨h1, h2, o, h3, h4, h5, h6⟩

theorem RowI.drewN {T : TypeId} {k : IntKind} {B : Nat} {w wr : World} {bo n : Nat} {p : List Nat → Prop} (h : RowI T k B w wr bo n p) (j : Nat) : RowI T k B w (wr.drewN j) bo n p := by
  obtain ⟨h1, h2, o, h3, h4, h5, h6⟩ := h
  exact ⟨h1, below_drewN h2 j, o, h3, h4, h5, h6⟩

theorem RowI.weaken {T : TypeId} {k : IntKind} {B : Nat} {w wr : World} {bo n : Nat} {p q : List Nat → Prop} (h : RowI T k B w wr bo n p) (hq : ∀ o : List Nat, o.length = n → (∀ d ∈ o, d < B) → p o → q o) : RowI T k B w wr bo n q := by
  obtain ⟨h1, h2, o, h3, h4, h5, h6⟩ := h
  exact ⟨h1, h2, o, h3, h4, hq o h3 h4 h5, h6⟩

/-- a store into the row -/
theorem RowI.set {T : TypeId} {k : IntKind} {B : Nat} {w wr : World} {bo n : Nat} {p q : List Nat → Prop} (h : RowI T k B w wr bo n p) (i : Nat) (v : Nat) (z : Int) (hz : z = (v : Int)) (hv : v < B)
    (hq : ∀ o : List Nat, o.length = n → (∀ d ∈ o, d < B) → p o → q (o.set i v)) : RowI T k B w (wr.setCell ⟨bo, i, none⟩ (.int k z)) bo n q := by
  obtain ⟨h1, h2, o, h3, h4, h5, h6⟩ := h
  subst hz
  refine ⟨h1, h2.setCell (by exact h1) _, o.set i v, by rw [List.length_set]; exact h3, ?_, hq o h3 h4 h5, h6.set i v⟩
  intro d hd
  rcases List.mem_or_eq_of_mem_set hd with h | h
  · exact h4 d h
  · subst h; exact hv

theorem RowI.facts {T : TypeId} {k : IntKind} {B : Nat} {w wr : World} {bo n : Nat} {p : List Nat → Prop} (h : RowI T k B w wr bo n p) :
    ∃ o : List Nat, o.length = n ∧ (∀ d ∈ o, d < B) ∧ p o ∧ Blk wr bo T k o ∧ Below w.heap.size w wr := by
  obtain ⟨h1, h2, o, h3, h4, h5, h6⟩ := h
  exact ⟨o, h3, h4, h5, h6, h2⟩

theorem RowI.at_ {T : TypeId} {k : IntKind} {B : Nat} {w wr : World} {bo n : Nat} {p : List Nat → Prop} (h : RowI T k B w wr bo n p) (i : Nat) (hi : i < n) :
    ∃ d : Nat, d < B ∧ wr.cell? ⟨bo, i, none⟩ = some (.int k (d : Int)) ∧ wr.frozen? ⟨bo, i, none⟩ = false ∧ RowI T k B w wr bo n (fun o => p o ∧ o[i]? = some d) := by
  obtain ⟨h1, h2, o, h3, h4, h5, h6⟩ := h
  exact ⟨o[i], h4 _ (List.getElem_mem _), h6.cell i (by omega), h6.free i, h1, h2, o, h3, h4, ⟨h5, List.getElem?_eq_getElem (by omega)⟩, h6⟩

theorem RowI.below {T : TypeId} {k : IntKind} {B : Nat} {w wr : World} {bo n : Nat} {p : List Nat → Prop} (h : RowI T k B w wr bo n p) : Below w.heap.size w wr := h.2.1


theorem sub_step0 {B b x y k P S T : Nat} (h : P + T = S + b * B ^ k) (hxy : b + y ≤ x) : P + (x - (b + y)) * B ^ k + (T + y * B ^ k) = S + x * B ^ k + 0 * B ^ (k + 1) := by
  obtain ⟨t, rfl⟩ : ∃ t, x = b + y + t := ⟨x - (b + y), by omega⟩
  rw [show b + y + t - (b + y) = t from by omega]
  generalize B ^ (k + 1) = q
  generalize B ^ k = p at *
  grind
theorem sub_step1 {B b x y k P S T : Nat} (h : P + T = S + b * B ^ k) (_hxy : x < b + y) (hB : b + y ≤ x + B) : P + (x + B - (b + y)) * B ^ k + (T + y * B ^ k) = S + x * B ^ k + 1 * B ^ (k + 1) := by
  obtain ⟨t, ht⟩ : ∃ t, x + B = b + y + t := ⟨x + B - (b + y), by omega⟩
  rw [ht, show b + y + t - (b + y) = t from by omega, Nat.pow_succ]
  generalize B ^ k = p at *
  have : (x + B) * p = (b + y + t) * p := by rw [ht]
  grind

def SubP (xs ys : List Nat) (k b : Nat) (o : List Nat) : Prop := b ≤ 1 ∧ o.drop k = xs.drop k ∧ val W32 (o.take k) + val W32 (ys.take k) = val W32 (xs.take k) + b * W32 ^ k

theorem SubP.step {xs ys : List Nat} {k b : Nat} {o : List Nat} (h : SubP xs ys k b o) (ho : o.length = xs.length) (hk : k < xs.length) (y : Nat) (hy : val W32 (ys.take (k + 1)) = val W32 (ys.take k) + y * W32 ^ k) (hy2 : y < 4294967296) (v b' : Nat)
    (hv : (b + y ≤ xs[k] ∧ v = xs[k] - (b + y) ∧ b' = 0) ∨ (xs[k] < b + y ∧ v = xs[k] + W32 - (b + y) ∧ b' = 1)) : SubP xs ys (k + 1) b' (o.set k v) := by
  obtain ⟨h1, h2, h3⟩ := h
  refine ⟨by omega, ?_, ?_⟩
  · rw [List.drop_set_of_lt (by omega)]
    have := congrArg (List.drop 1) h2
    simpa [List.drop_drop] using this
  · rw [val_take_succ W32 _ k (by rw [List.length_set]; omega), List.take_set_of_le (Nat.le_refl k), List.getElem_set_self, val_take_succ W32 xs k hk, hy]
    rcases hv with ⟨a1, rfl, rfl⟩ | ⟨a1, rfl, rfl⟩
    · exact sub_step0 h3 a1
    · exact sub_step1 h3 a1 (by unfold W32; omega)

theorem val_take_step (B : Nat) (ys : List Nat) (k : Nat) : ∃ y, (k < ys.length → ys[k]? = some y) ∧ (ys.length ≤ k → y = 0) ∧ ((∀ d ∈ ys, d < 4294967296) → y < 4294967296) ∧ val B (ys.take (k + 1)) = val B (ys.take k) + y * B ^ k := by
  by_cases h : k < ys.length
  · exact ⟨ys[k], fun _ => List.getElem?_eq_getElem h, fun h' => by omega, fun hd => hd _ (List.getElem_mem _), val_take_succ B ys k h⟩
  · refine ⟨0, fun h' => by omega, fun _ => rfl, fun _ => by omega, ?_⟩
    rw [List.take_of_length_le (by omega), List.take_of_length_le (by omega)]; omega

theorem u64_wrap_neg (t : Int) (h : -18446744073709551616 ≤ t ∧ t < 0) : IntKind.u64.wrap t = t + 18446744073709551616 := by
  simp [IntKind.wrap, IntKind.bits, IntKind.signed]; omega

set_option maxHeartbeats 2000000 in
theorem sub_any (va vb : Value) (m n : Nat) (w : World) (ha : NatV w .u32 W32 va m) (hb : NatV w .u32 W32 vb n) (hma : (digs W32 m).length ≤ 100000) (hmn : n ≤ m) :
    Calls Tryd.prog 50 #[va, vb] w fun e w' => ∃ v, e = .returned v ∧ NatV w' .u32 W32 v (m - n) ∧ Below w.heap.size w w' := by
  obtain ⟨aa, ca, rfl, hca, ra⟩ := ha
  obtain ⟨ab, cb, rfl, hcb, rb⟩ := hb
  have hlen := digs_length_mono W32 W32_ge n m hmn
  have va := val_digs W32 W32_ge m
  have vb := val_digs W32 W32_ge n
  have la := digs_lt32 m
  have lb := digs_lt32 n
  generalize digs W32 m = xs at *
  generalize digs W32 n = ys at *
  have VA := Lib.hid va; have VB := Lib.hid vb; have LA := Lib.hid la; have LB := Lib.hid lb
  clear va vb la lb
  go_enter Tryd.func50, Tryd.ntmps50
  go_wp2_with (first
    | (at_make; refine wpList_make_row _ rfl (.tmp 11) (.tmp 11) 42 rfl 65 .u32 4 (by kernel_rfl) u32_type .i64 .i64 _ _ xs.length rfl rfl rfl rfl (by omega) (by omega) ?_; intro w1 hB1 hb1 hs1)
    | (with_reducible show wpList _ _ _ _ _ _; refine wpList_copy_row rfl (.tmp 13) (.tmp 14) 42 42 rfl 65 (by kernel_rfl) u32_size _ _ _ _ _ _ rfl rfl 65 .u32 (List.replicate xs.length 0) xs (by simp) rfl hB1 (ra.below hb1) (by simp) ?_; intro w2 hB2 hb2))
  have inv0 : RowI 65 .u32 W32 w w2 w.heap.size xs.length (SubP xs ys 0 0) := RowI.mk' (Nat.le_refl _) (hb1.trans hb2) xs rfl LA.out ⟨by omega, rfl, by simp⟩ (by simpa using hB2)
  clear hB2 hb2 hB1 hb1 hs1
  obtain ⟨bo, hbo⟩ : ∃ bo, bo = w.heap.size := ⟨_, rfl⟩
  rw [← hbo] at inv0
  rw [← hbo]
  clear hbo
  go_loopw [18, 6] (fun s18 s6 wr => ∃ k b : Nat, k ≤ xs.length ∧ b ≤ 1 ∧ s18 = .int .i64 k ∧ s6 = .int .u64 b ∧ RowI 65 .u32 W32 w wr bo xs.length (SubP xs ys k b)) (fun s18 _ _ => xs.length - (intOf s18).toNat)
  case atStart => exact ⟨0, 0, by omega, by omega, rfl, rfl, inv0⟩
  case round =>
    obtain ⟨k, b, hk, hb1, rfl, rfl, inv⟩ := hrel
    clear inv0
    by_cases hlt : k < xs.length
    · obtain ⟨d, hd, hcc, hfo, inv'⟩ := inv.at_ k hlt
      have hdx : d = xs[k] := by
        obtain ⟨o, h1, _, ⟨h3, h4⟩, _⟩ := inv'.facts
        have h5 := congrArg List.head? h3.2.1
        rw [List.head?_drop, List.head?_drop, h4, List.getElem?_eq_getElem hlt] at h5
        exact Option.some.inj h5
      obtain ⟨y, hy1, hy2, hy3, hy4⟩ := val_take_step W32 ys k
      have hy5 := hy3 LB.out
      have stp := fun (o : List Nat) (h : SubP xs ys k b o) (ho : o.length = xs.length) => SubP.step h ho hlt y hy4 hy5
      rw [← hdx] at stp
      have STP := Lib.hid stp; clear stp hy3 hy4
      have HDX := Lib.hid hdx; clear hdx inv'
      have hd' : d < 4294967296 := hd
      have hbl := inv.below
      by_cases hkb : k < ys.length
      · obtain ⟨b2, o2, rfl, hb2, hc2⟩ := rb k hkb
        have hy6 := hy1 hkb
        rw [List.getElem?_eq_getElem hkb] at hy6
        rw [Option.some.inj hy6] at hc2
        rw [← hbl.cell (p := ⟨b2, o2 + k, none⟩) hb2] at hc2
        clear hy1 hy2 hy6
        by_cases hdy : b + y ≤ d
        · go_wp2
          go_roundw
          case rel => exact ⟨k + 1, 0, by omega, by omega, by go_num, by first | go_num | (congr 1; omega), inv.set k (d - (b + y)) _ (by omega) (by unfold W32; omega) (fun o ho _ hp => STP.out o hp ho _ _ (.inl ⟨hdy, rfl, rfl⟩))⟩
          case measure => simp [intOf]; omega
        · have hwr := u64_wrap_neg ((d : Int) - ((b : Int) + (y : Int))) (by omega)
          go_wp2
          go_roundw
          case rel => exact ⟨k + 1, 1, by omega, by omega, by go_num, by first | go_num | (congr 1; omega), inv.set k (d + W32 - (b + y)) _ (by unfold W32; omega) (by unfold W32; omega) (fun o ho _ hp => STP.out o hp ho _ _ (.inr ⟨by omega, rfl, rfl⟩))⟩
          case measure => simp [intOf]; omega
      · obtain rfl := hy2 (by omega)
        clear hy1 hy2
        by_cases hdy : b ≤ d
        · go_wp2
          go_roundw
          case rel => exact ⟨k + 1, 0, by omega, by omega, by go_num, by first | go_num | (congr 1; omega), inv.set k (d - b) _ (by omega) (by unfold W32; omega) (fun o ho _ hp => STP.out o hp ho _ _ (.inl ⟨by omega, by omega, rfl⟩))⟩
          case measure => simp [intOf]; omega
        · have hwr := u64_wrap_neg ((d : Int) - (b : Int)) (by omega)
          go_wp2
          go_roundw
          case rel => exact ⟨k + 1, 1, by omega, by omega, by go_num, by first | go_num | (congr 1; omega), inv.set k (d + W32 - b) _ (by unfold W32; omega) (by unfold W32; omega) (fun o ho _ hp => STP.out o hp ho _ _ (.inr ⟨by omega, by omega, rfl⟩))⟩
          case measure => simp [intOf]; omega
    · obtain rfl : k = xs.length := by omega
      obtain ⟨o, hol, hod, ⟨hp1, hp2, hp3⟩, hob, hbl⟩ := inv.facts
      have hov : val W32 o = m - n := by
        have h1 := val_lt W32 W32_ge o hod
        rw [List.take_of_length_le (by omega), List.take_of_length_le (by omega), List.take_length, VA.out, VB.out] at hp3
        rw [hol] at h1
        generalize W32 ^ xs.length = q at *
        rcases (show b = 0 ∨ b = 1 from by omega) with rfl | rfl <;> omega
      have HOV := Lib.hid hov; have HOD := Lib.hid hod; have HOL := Lib.hid hol
      clear hov hod hp2 hp3
      have hol1 : o.length ≤ xs.length := by omega
      clear hol
      go_wp2_with fail
      rw [show xs.length = o.length from HOL.out.symm]
      refine (trim_ds (some ⟨bo, 0, none⟩) o.length o _ (by omega) (by omega) hob.rd).mono ?_
      rintro e w' ⟨rfl, rfl⟩
      go_wp2
      go_ret
      exact ⟨_, rfl, NatV.of_row W32_ge hob.rd (Nat.le_refl _) HOD.out _ HOV.out, hbl⟩

end Go.Proofs.YtpjjbdpkhmeldaaDoor
