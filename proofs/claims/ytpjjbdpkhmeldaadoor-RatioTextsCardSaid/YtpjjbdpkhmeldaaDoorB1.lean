/- contracts of ratio's Valid, Neg, Sign, Floor, Ceil -/
import Derived.Test.YtpjjbdpkhmeldaaDoorA9
namespace Go.Proofs.YtpjjbdpkhmeldaaDoor
open Go.RowKit

def validB (n d : Int) : Bool := decide (1 ≤ d ∧ d ≤ 4611686018427387904 ∧ -4611686018427387904 ≤ n ∧ n ≤ 4611686018427387904 ∧ Nat.gcd n.natAbs d.natAbs = 1)

theorem validB_true {n d : Int} (h : validB n d = true) : 1 ≤ d ∧ d ≤ 4611686018427387904 ∧ -4611686018427387904 ≤ n ∧ n ≤ 4611686018427387904 ∧ Nat.gcd n.natAbs d.natAbs = 1 := of_decide_eq_true h

theorem magnitude_q (n : Int) (w : World) (h : -9223372036854775808 ≤ n ∧ n ≤ 9223372036854775807) :
    Calls Tryd.prog 29 #[.int .i64 n] w fun e w' => e = .returned (.int .u64 (n.natAbs : Int)) ∧ w' = w := (magnitude_any n w h).mono fun _ _ h => ⟨h.1, h.2.symm⟩
theorem sign_q (n : Int) (w : World) :
    Calls Tryd.prog 38 #[.int .i64 n] w fun e w' => e = .returned (.int .i64 (sgn n)) ∧ w' = w := (sign_any n w).mono fun _ _ h => ⟨h.1, h.2.symm⟩

def I64 (n : Int) : Prop := -9223372036854775808 ≤ n ∧ n ≤ 9223372036854775807

set_option maxHeartbeats 1000000 in
theorem valid_out (n d : Int) (w : World) (hn : I64 n) (hd : I64 d) (h : d < 1 ∨ 4611686018427387904 < d ∨ n < -4611686018427387904 ∨ 4611686018427387904 < n) :
    Calls Tryd.prog 14 #[.agg #[.int .i64 n, .int .i64 d]] w fun e w' => e = .returned (.bool false) ∧ Below w.heap.size w w' := by
  obtain ⟨hn1, hn2⟩ := hn
  obtain ⟨hd1, hd2⟩ := hd
  by_cases h1 : d < 1
  · have e1 : decide (d < 1) = true := by simpa using h1
    clear h
    go_enter Tryd.func14, Tryd.ntmps14
    go_wp2
    go_ret
    exact ⟨rfl, (Below.refl _ _).alloc (Nat.le_refl _) _⟩
  · by_cases h2 : 4611686018427387904 < d
    · have e1 : decide (d < 1) = false := by simpa using h1
      have e2 : decide (4611686018427387904 < d) = true := by simpa using h2
      clear h
      go_enter Tryd.func14, Tryd.ntmps14
      go_wp2
      go_ret
      exact ⟨rfl, (Below.refl _ _).alloc (Nat.le_refl _) _⟩
    · by_cases h3 : n < -4611686018427387904
      · have e1 : decide (d < 1) = false := by simpa using h1
        have e2 : decide (4611686018427387904 < d) = false := by simpa using h2
        have e3 : decide (n < -4611686018427387904) = true := by simpa using h3
        clear h
        go_enter Tryd.func14, Tryd.ntmps14
        go_wp2
        go_ret
        exact ⟨rfl, (Below.refl _ _).alloc (Nat.le_refl _) _⟩
      · have h4 : 4611686018427387904 < n := by omega
        have e1 : decide (d < 1) = false := by simpa using h1
        have e2 : decide (4611686018427387904 < d) = false := by simpa using h2
        have e3 : decide (n < -4611686018427387904) = false := by simpa using h3
        have e4 : decide (4611686018427387904 < n) = true := by simpa using h4
        clear h
        go_enter Tryd.func14, Tryd.ntmps14
        go_wp2
        go_ret
        exact ⟨rfl, (Below.refl _ _).alloc (Nat.le_refl _) _⟩

set_option maxHeartbeats 1000000 in
theorem valid_in (n : Int) (d : Nat) (b : Bool) (hb : decide (Nat.gcd n.natAbs d = 1) = b) (w : World) (hd1 : 1 ≤ d) (hd2 : d ≤ 4611686018427387904) (hn1 : -4611686018427387904 ≤ n) (hn2 : n ≤ 4611686018427387904) :
    Calls Tryd.prog 14 #[.agg #[.int .i64 n, .int .i64 d]] w fun e w' => e = .returned (.bool b) ∧ Below w.heap.size w w' := by
  have e1 : decide ((d : Int) < 1) = false := by simp; omega
  have e2 : decide ((4611686018427387904 : Int) < d) = false := by simp; omega
  have e3 : decide (n < -4611686018427387904) = false := by simp; omega
  have e4 : decide (4611686018427387904 < n) = false := by simp; omega
  have hwd := u64_id d (by omega)
  have HB := Lib.hid hb
  clear hb
  go_enter Tryd.func14, Tryd.ntmps14
  go_wp2_with fail
  go_quiet ((go_at_call 29; exact Calls.quiet_of_same (magnitude_q _ _ (by omega))))
  have hbl : Below w.heap.size w ((w.alloc (Obj.cells #[Value.int IntKind.i64 n, Value.int IntKind.i64 d] 23)).drewN nq) := below_drewN ((Below.refl _ _).alloc (Nat.le_refl _) _) nq
  obtain ⟨w0, hw0⟩ : ∃ w0, w0 = (w.alloc (Obj.cells #[Value.int IntKind.i64 n, Value.int IntKind.i64 d] 23)).drewN nq := ⟨_, rfl⟩
  rw [← hw0] at hbl
  rw [← hw0]
  clear hw0
  go_wp2
  have hnl : n.natAbs < 18446744073709551616 := by omega
  go_loopw [3, 4] (fun s3 s4 wr => ∃ x y : Nat, x < 18446744073709551616 ∧ y < 18446744073709551616 ∧ s3 = .int .u64 x ∧ s4 = .int .u64 y ∧ Nat.gcd x y = Nat.gcd n.natAbs d ∧ Below w.heap.size w wr) (fun _ s4 _ => (intOf s4).toNat)
  case atStart => exact ⟨n.natAbs, d, hnl, by omega, rfl, rfl, rfl, hbl⟩
  case round =>
    obtain ⟨x, y, hx, hy, rfl, rfl, hg, hbr⟩ := hrel
    have HG := Lib.hid hg
    clear hg hbl
    rcases Nat.eq_zero_or_pos y with rfl | hyp
    · have hfin : ((x : Int) == 1) = b := by
        have h1 := HG.out
        rw [Nat.gcd_zero_right] at h1
        have h2 : Nat.gcd n.natAbs d = 1 ↔ x = 1 := by rw [← h1]
        rw [← HB.out]
        by_cases h : x = 1
        · rw [decide_eq_true (h2.2 h)]; subst h; rfl
        · rw [decide_eq_false (fun e => h (h2.1 e))]; simp; omega
      have HF := Lib.hid hfin
      clear hfin
      go_wp2
      go_ret
      exact ⟨congrArg (fun b => Ending.returned (Value.bool b)) HF.out, hbr⟩
    · have hz : ((y : Int) != 0) = true := by simp; omega
      have hz2 : ((y : Int) == 0) = false := by simp; omega
      have hml : x % y < y := Nat.mod_lt _ hyp
      go_wp2
      go_quiet (fail)
      go_wp2
      go_roundw
      case rel =>
        refine ⟨y, x % y, hy, by omega, rfl, by simp, ?_, below_drewN hbr _⟩
        rw [← HG.out, Nat.gcd_comm x y, Nat.gcd_rec y x, Nat.gcd_comm]
      case measure =>
        simp [intOf]; exact hml

theorem valid_any (n d : Int) (b : Bool) (h : validB n d = b) (w : World) (hn : I64 n) (hd : I64 d) :
    Calls Tryd.prog 14 #[.agg #[.int .i64 n, .int .i64 d]] w fun e w' => e = .returned (.bool b) ∧ Below w.heap.size w w' := by
  by_cases hr : d < 1 ∨ 4611686018427387904 < d ∨ n < -4611686018427387904 ∨ 4611686018427387904 < n
  · have : b = false := by rw [← h]; exact decide_eq_false (fun h => by omega)
    subst this
    exact valid_out n d w hn hd hr
  · obtain ⟨m, rfl⟩ : ∃ m : Nat, d = m := ⟨d.toNat, by omega⟩
    refine valid_in n m b ?_ w (by omega) (by omega) (by omega) (by omega)
    rw [← h]
    unfold validB
    by_cases hg : Nat.gcd n.natAbs m = 1
    · rw [decide_eq_true hg, decide_eq_true]
      exact ⟨by omega, by omega, by omega, by omega, hg⟩
    · rw [decide_eq_false hg, decide_eq_false]
      exact fun h => hg h.2.2.2.2

/-- the opposite -/
def negS (n d : Int) : Int × Int := if validB n d then (-n, d) else (0, 0)

def signS (n d : Int) : Int := if validB n d then sgn n else 0

def floorS (n d : Int) : Int := if validB n d then (if n.tmod d < 0 then n.tdiv d - 1 else n.tdiv d) else 0
def ceilS (n d : Int) : Int := if validB n d then (if 0 < n.tmod d then n.tdiv d + 1 else n.tdiv d) else 0

theorem tdiv_bd (n d : Int) (h1 : 1 ≤ d) (h2 : -4611686018427387904 ≤ n) (h3 : n ≤ 4611686018427387904) : -4611686018427387904 ≤ n.tdiv d ∧ n.tdiv d ≤ 4611686018427387904 := by
  rcases Int.le_total 0 n with h | h
  · rw [Int.tdiv_eq_ediv_of_nonneg h]
    have := Int.ediv_nonneg h (show (0 : Int) ≤ d by omega)
    have := Int.ediv_le_self d h
    omega
  · have e : n.tdiv d = -((-n).tdiv d) := by rw [Int.neg_tdiv]; omega
    rw [e, Int.tdiv_eq_ediv_of_nonneg (show 0 ≤ -n by omega)]
    have := Int.ediv_nonneg (show (0 : Int) ≤ -n by omega) (show (0 : Int) ≤ d by omega)
    have := Int.ediv_le_self d (show (0 : Int) ≤ -n by omega)
    omega

set_option maxHeartbeats 1000000 in
theorem Floor_any (n d : Int) (w : World) (hn : I64 n) (hd : I64 d) :
    Calls Tryd.prog 13 #[.agg #[.int .i64 n, .int .i64 d]] w fun e w' => e = .returned (.int .i64 (floorS n d)) ∧ Below w.heap.size w w' := by
  have hx := Box.made w 23 [.int .i64 n, .int .i64 d]
  have hbl : Below w.heap.size w (w.alloc (Obj.cells #[.int .i64 n, .int .i64 d] 23)) := (Below.refl _ _).alloc (Nat.le_refl _) _
  rcases Bool.eq_false_or_eq_true (validB n d) with hv | hv
  · obtain ⟨g1, g2, g3, g4, g5⟩ := validB_true hv
    have HV := Lib.hid hv
    clear hv g5
    go_enter Tryd.func13, Tryd.ntmps13
    go_wp2_with fail
    refine (valid_any n d true HV.out _ hn hd).mono ?_
    rintro e w1 ⟨rfl, hb⟩
    have hx1 := hx.below hb
    have hbl1 := hbl.trans (hb.mono hbl.size)
    have k0 := hx1.cell 0 _ rfl; have k1 := hx1.cell 1 _ rfl
    clear hx hbl hb
    have hq := tdiv_bd n d g1 g3 g4
    have hz : (d == 0) = false := by simp; omega
    obtain ⟨hq1, hq2⟩ := hq
    have hw1 := IntWalk.i64_in (n.tdiv d) (by omega)
    by_cases ht : n.tmod d < 0
    · have e1 : floorS n d = n.tdiv d - 1 := by unfold floorS; rw [HV.out, if_pos ht]; rfl
      have HE := Lib.hid e1
      clear e1
      go_wp2
      go_ret
      exact ⟨congrArg (fun x => Ending.returned (Value.int .i64 x)) HE.out.symm, hbl1⟩
    · have e1 : floorS n d = n.tdiv d := by unfold floorS; rw [HV.out, if_neg ht]; rfl
      have HE := Lib.hid e1
      clear e1
      go_wp2
      go_ret
      exact ⟨congrArg (fun x => Ending.returned (Value.int .i64 x)) HE.out.symm, hbl1⟩
  · have e1 : floorS n d = 0 := by unfold floorS; rw [hv]; rfl
    have HE := Lib.hid e1; have HV := Lib.hid hv
    clear e1 hv
    go_enter Tryd.func13, Tryd.ntmps13
    go_wp2_with fail
    refine (valid_any n d false HV.out _ hn hd).mono ?_
    rintro e w1 ⟨rfl, hb⟩
    have hbl1 := hbl.trans (hb.mono hbl.size)
    clear hx hbl hb
    go_wp2
    go_ret
    exact ⟨congrArg (fun x => Ending.returned (Value.int .i64 x)) HE.out.symm, hbl1⟩

end Go.Proofs.YtpjjbdpkhmeldaaDoor
