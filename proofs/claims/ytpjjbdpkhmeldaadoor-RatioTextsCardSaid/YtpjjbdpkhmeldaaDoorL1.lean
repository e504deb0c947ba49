/- the reference's gcd and Valid; the law's awake -/
import Derived.Test.YtpjjbdpkhmeldaaDoorB8
import Derived.Test.YtpjjbdpkhmeldaaDoorB7
namespace Go.Proofs.YtpjjbdpkhmeldaaDoor
open Go.RowKit

set_option maxHeartbeats 1000000 in
theorem rgcd_any (n : Int) (d : Nat) (w : World) (hn1 : -9223372036854775807 ≤ n) (hn2 : n ≤ 9223372036854775807) (hd : d ≤ 9223372036854775807) :
    Calls Tryd.prog 28 #[.int .i64 n, .int .i64 d] w fun e w' => e = .returned (.int .i64 (Nat.gcd n.natAbs d : Nat)) ∧ Below w.heap.size w w' := by
  go_enter Tryd.func28, Tryd.ntmps28
  by_cases hneg : n < 0
  · have e1 : decide (n < 0) = true := by simpa using hneg
    go_wp2
    go_loopw [0, 1] (fun s3 s4 wr => ∃ x y : Nat, x ≤ 9223372036854775807 ∧ y ≤ 9223372036854775807 ∧ s3 = .int .i64 x ∧ s4 = .int .i64 y ∧ Hid (Nat.gcd x y = Nat.gcd n.natAbs d) ∧ Below w.heap.size w wr) (fun _ s4 _ => (intOf s4).toNat)
    case atStart => exact ⟨n.natAbs, d, by omega, by omega, by congr 1; (try rw [IntWalk.i64_in _ (by omega)]); omega, rfl, rfl, Below.refl _ _⟩
    case round =>
      obtain ⟨x, y, hx, hy, rfl, rfl, HG, hbr⟩ := hrel
      rcases Nat.eq_zero_or_pos y with rfl | hyp
      · have hz : (((0 : Nat) : Int) != 0) = false := rfl
        go_wp2
        go_ret
        have h1 := HG.out
        rw [Nat.gcd_zero_right] at h1
        refine ⟨?_, hbr⟩
        rw [← h1]; rfl
      · have hz : ((y : Int) != 0) = true := by simp; omega
        have hz2 : ((y : Int) == 0) = false := by simp; omega
        have hml : x % y < y := Nat.mod_lt _ hyp
        have hmd : ((x : Int).tmod (y : Int)) = ((x % y : Nat) : Int) := rfl
        go_wp2
        go_quiet (fail)
        go_wp2
        go_roundw
        case rel =>
          refine ⟨y, x % y, hy, by omega, rfl, by simp, Lib.hid ?_, below_drewN hbr _⟩
          rw [← HG.out, Nat.gcd_comm x y, Nat.gcd_rec y x, Nat.gcd_comm]
        case measure =>
          simp [intOf]; exact hml
  · have e1 : decide (n < 0) = false := by simp; omega
    go_wp2
    go_loopw [0, 1] (fun s3 s4 wr => ∃ x y : Nat, x ≤ 9223372036854775807 ∧ y ≤ 9223372036854775807 ∧ s3 = .int .i64 x ∧ s4 = .int .i64 y ∧ Hid (Nat.gcd x y = Nat.gcd n.natAbs d) ∧ Below w.heap.size w wr) (fun _ s4 _ => (intOf s4).toNat)
    case atStart => exact ⟨n.natAbs, d, by omega, by omega, by congr 1; omega, rfl, rfl, Below.refl _ _⟩
    case round =>
      obtain ⟨x, y, hx, hy, rfl, rfl, HG, hbr⟩ := hrel
      rcases Nat.eq_zero_or_pos y with rfl | hyp
      · have hz : (((0 : Nat) : Int) != 0) = false := rfl
        go_wp2
        go_ret
        have h1 := HG.out
        rw [Nat.gcd_zero_right] at h1
        refine ⟨?_, hbr⟩
        rw [← h1]; rfl
      · have hz : ((y : Int) != 0) = true := by simp; omega
        have hz2 : ((y : Int) == 0) = false := by simp; omega
        have hml : x % y < y := Nat.mod_lt _ hyp
        have hmd : ((x : Int).tmod (y : Int)) = ((x % y : Nat) : Int) := rfl
        go_wp2
        go_quiet (fail)
        go_wp2
        go_roundw
        case rel =>
          refine ⟨y, x % y, hy, by omega, rfl, by simp, Lib.hid ?_, below_drewN hbr _⟩
          rw [← HG.out, Nat.gcd_comm x y, Nat.gcd_rec y x, Nat.gcd_comm]
        case measure =>
          simp [intOf]; exact hml

set_option maxHeartbeats 1000000 in
theorem rvalid_out (n d : Int) (w : World) (hn : I64 n) (hd : I64 d) (h : d < 1 ∨ 4611686018427387904 < d ∨ n < -4611686018427387904 ∨ 4611686018427387904 < n) :
    Calls Tryd.prog 9 #[.agg #[.int .i64 n, .int .i64 d]] w fun e w' => e = .returned (.bool false) ∧ Below w.heap.size w w' := by
  obtain ⟨hn1, hn2⟩ := hn
  obtain ⟨hd1, hd2⟩ := hd
  by_cases h1 : d < 1
  · have e1 : decide (1 ≤ d) = false := by simpa using h1
    clear h
    go_enter Tryd.func9, Tryd.ntmps9
    go_wp2
    go_ret
    exact ⟨rfl, (Below.refl _ _).alloc (Nat.le_refl _) _⟩
  · by_cases h2 : 4611686018427387904 < d
    · have e1 : decide (1 ≤ d) = true := by simp; omega
      have e2 : decide (d ≤ 4611686018427387904) = false := by simpa using h2
      clear h
      go_enter Tryd.func9, Tryd.ntmps9
      go_wp2
      go_ret
      exact ⟨rfl, (Below.refl _ _).alloc (Nat.le_refl _) _⟩
    · by_cases h3 : n < -4611686018427387904
      · have e1 : decide (1 ≤ d) = true := by simp; omega
        have e2 : decide (d ≤ 4611686018427387904) = true := by simp; omega
        have e3 : decide (-4611686018427387904 ≤ n) = false := by simpa using h3
        clear h
        go_enter Tryd.func9, Tryd.ntmps9
        go_wp2
        go_ret
        exact ⟨rfl, (Below.refl _ _).alloc (Nat.le_refl _) _⟩
      · have h4 : 4611686018427387904 < n := by omega
        have e1 : decide (1 ≤ d) = true := by simp; omega
        have e2 : decide (d ≤ 4611686018427387904) = true := by simp; omega
        have e3 : decide (-4611686018427387904 ≤ n) = true := by simp; omega
        have e4 : decide (n ≤ 4611686018427387904) = false := by simpa using h4
        clear h
        go_enter Tryd.func9, Tryd.ntmps9
        go_wp2
        go_ret
        exact ⟨rfl, (Below.refl _ _).alloc (Nat.le_refl _) _⟩

set_option maxHeartbeats 1000000 in
theorem rvalid_in (n : Int) (d : Nat) (b : Bool) (hb : decide (Nat.gcd n.natAbs d = 1) = b) (w : World) (hd1 : 1 ≤ d) (hd2 : d ≤ 4611686018427387904) (hn1 : -4611686018427387904 ≤ n) (hn2 : n ≤ 4611686018427387904) :
    Calls Tryd.prog 9 #[.agg #[.int .i64 n, .int .i64 d]] w fun e w' => e = .returned (.bool b) ∧ Below w.heap.size w w' := by
  have hx := Box.made w 23 [.int .i64 n, .int .i64 d]
  have hbl : Below w.heap.size w (w.alloc (Obj.cells #[.int .i64 n, .int .i64 d] 23)) := (Below.refl _ _).alloc (Nat.le_refl _) _
  have e1 : decide ((1 : Int) ≤ (d : Int)) = true := by simp; omega
  have e2 : decide ((d : Int) ≤ 4611686018427387904) = true := by simp; omega
  have e3 : decide (-4611686018427387904 ≤ n) = true := by simp; omega
  have e4 : decide (n ≤ 4611686018427387904) = true := by simp; omega
  obtain ⟨g, hg⟩ : ∃ g, g = Nat.gcd n.natAbs d := ⟨_, rfl⟩
  have CG := Lib.hid (fun wx => rgcd_any n d wx (by omega) (by omega) (by omega))
  rw [← hg] at CG
  have hb2 : g = 1 ↔ b = true := by rw [← hb, hg]; exact decide_eq_true_iff.symm
  clear hg hb
  have hfin : ((g : Int) == 1) = b := by
    by_cases h : g = 1
    · rw [hb2.1 h]; subst h; rfl
    · have : b = false := by cases b with
        | false => rfl
        | true => exact absurd (hb2.2 rfl) h
      rw [this]; simp; omega
  clear hb2
  go_enter Tryd.func9, Tryd.ntmps9
  go_wp2_with (first
    | (go_at_call 28; (with_reducible refine (CG.out _).mono ?_); rintro e w1 ⟨rfl, hb1⟩))
  go_ret
  exact ⟨rfl, hbl.trans (hb1.mono hbl.size)⟩

theorem rvalid_any (n d : Int) (b : Bool) (h : validB n d = b) (w : World) (hn : I64 n) (hd : I64 d) :
    Calls Tryd.prog 9 #[.agg #[.int .i64 n, .int .i64 d]] w fun e w' => e = .returned (.bool b) ∧ Below w.heap.size w w' := by
  by_cases hr : d < 1 ∨ 4611686018427387904 < d ∨ n < -4611686018427387904 ∨ 4611686018427387904 < n
  · have : b = false := by rw [← h]; exact decide_eq_false (fun h => by omega)
    subst this
    exact rvalid_out n d w hn hd hr
  · obtain ⟨m, rfl⟩ : ∃ m : Nat, d = m := ⟨d.toNat, by omega⟩
    refine rvalid_in n m b ?_ w (by omega) (by omega) (by omega) (by omega)
    rw [← h]
    unfold validB
    by_cases hg : Nat.gcd n.natAbs m = 1
    · rw [decide_eq_true hg, decide_eq_true]
      exact ⟨by omega, by omega, by omega, by omega, hg⟩
    · rw [decide_eq_false hg, decide_eq_false]
      exact fun h => hg h.2.2.2.2

theorem ratB (w : World) (x y : Int) : Box (((w.alloc (Obj.cells #[.int .i64 0, .int .i64 0] 23)).setCell ⟨w.heap.size, 0, none⟩ (.int .i64 x)).setCell ⟨w.heap.size, 1, none⟩ (.int .i64 y)) w.heap.size 23 [.int .i64 x, .int .i64 y] :=
  ((Box.made w 23 [.int .i64 0, .int .i64 0]).set 0 _).set 1 _
theorem ratBl (w : World) (v0 v1 x y : Value) : Below w.heap.size w (((w.alloc (Obj.cells #[v0, v1] 23)).setCell ⟨w.heap.size, 0, none⟩ x).setCell ⟨w.heap.size, 1, none⟩ y) :=
  (((Below.refl _ _).alloc (Nat.le_refl _) _).setCell (by simp) _).setCell (by simp) _

theorem ratL3 (w : World) (a b c d e f : Int) (T : TypeId) (ha : I64 a ∧ I64 b ∧ I64 c ∧ I64 d ∧ I64 e ∧ I64 f) : RatL (w.alloc (Obj.cells #[.int .i64 a, .int .i64 b, .int .i64 c, .int .i64 d, .int .i64 e, .int .i64 f] T)) (some ⟨w.heap.size, 0, none⟩) [(a, b), (c, d), (e, f)] := by
  have hb := Box.made w T [.int .i64 a, .int .i64 b, .int .i64 c, .int .i64 d, .int .i64 e, .int .i64 f]
  obtain ⟨h1, h2, h3, h4, h5, h6⟩ := ha
  intro i hi
  refine ⟨_, _, rfl, hb.lt, ?_⟩
  match i, hi with
  | 0, _ => exact ⟨hb.cell 0 _ rfl, hb.cell 1 _ rfl, h1, h2⟩
  | 1, _ => exact ⟨hb.cell 2 _ rfl, hb.cell 3 _ rfl, h3, h4⟩
  | 2, _ => exact ⟨hb.cell 4 _ rfl, hb.cell 5 _ rfl, h5, h6⟩

set_option maxHeartbeats 1000000 in
theorem awake_any (w : World) : Calls Tryd.prog 4 #[] w fun e w' => e = .returned (.bool true) ∧ Below w.heap.size w w' := by
  have c1 := Lib.hid (fun wx => Of_any 6 (-4) wx ⟨by omega, by omega⟩ ⟨by omega, by omega⟩)
  have c2 := Lib.hid (fun ax wx (h : RatL wx ax _) => sum_ratio ax 3 [((1 : Int), (3 : Int)), (1, 6), (1, 2)] wx (by decide) h)
  have c3 := Lib.hid (fun wx => mul_ratio 4611686018427387904 1 2 3 wx ⟨by omega, by omega⟩ ⟨by omega, by omega⟩ ⟨by omega, by omega⟩ ⟨by omega, by omega⟩)
  have c4 := Lib.hid (fun wx => Floor_any (-3) 2 wx ⟨by omega, by omega⟩ ⟨by omega, by omega⟩)
  have e1 : ofS 6 (-4) = (-3, 2, 0) := by decide +kernel
  have e2 : sumS [((1 : Int), (3 : Int)), (1, 6), (1, 2)] = (1, 1, 0) := by decide +kernel
  have e3 : mulS 4611686018427387904 1 2 3 = (0, 0, 2) := by decide +kernel
  have e4 : floorS (-3) 2 = -2 := by decide +kernel
  rw [e1] at c1
  rw [e2] at c2
  rw [e3] at c3
  rw [e4] at c4
  clear e1 e2 e3 e4
  go_enter Tryd.func4, Tryd.ntmps4
  go_wp2_with fail
  (with_reducible refine (c1.out _).mono ?_)
  unfold RatE
  rintro e w1 ⟨rfl, hb1⟩
  clear c1
  have x1 := Box.made w1 23 [.int .i64 (-3), .int .i64 2]
  have l1 := hb1.alloc hb1.size (Obj.cells #[.int .i64 (-3), .int .i64 2] 23)
  go_wp2_with fail
  have hL := ratL3 (w1.alloc (Obj.cells #[.int .i64 (-3), .int .i64 2] 23)) 1 3 1 6 1 2 23 ⟨⟨by omega, by omega⟩, ⟨by omega, by omega⟩, ⟨by omega, by omega⟩, ⟨by omega, by omega⟩, ⟨by omega, by omega⟩, ⟨by omega, by omega⟩⟩
  rw [alloc_size] at hL
  refine (c2.out _ _ hL).mono ?_
  clear hL c2
  unfold RatE
  rintro e w2 ⟨rfl, hb2⟩
  replace x1 := (x1.alloc _).below hb2
  replace l1 := (l1.alloc l1.size _).trans (hb2.mono (l1.alloc l1.size _).size)
  clear hb2
  have x2 := Box.made w2 23 [.int .i64 1, .int .i64 1]
  replace x1 := x1.alloc (Obj.cells #[.int .i64 1, .int .i64 1] 23)
  have l2 := l1.alloc l1.size (Obj.cells #[.int .i64 1, .int .i64 1] 23)
  go_wp2_with fail
  (with_reducible refine (c3.out _).mono ?_)
  clear c3
  unfold RatE
  rintro e w3 ⟨rfl, hb3⟩
  replace x1 := x1.below hb3
  replace x2 := x2.below hb3
  replace l2 := l2.trans (hb3.mono l2.size)
  clear hb3
  have x3 := Box.made w3 23 [.int .i64 0, .int .i64 0]
  replace x1 := x1.alloc (Obj.cells #[.int .i64 0, .int .i64 0] 23)
  replace x2 := x2.alloc (Obj.cells #[.int .i64 0, .int .i64 0] 23)
  replace l2 := l2.alloc l2.size (Obj.cells #[.int .i64 0, .int .i64 0] 23)
  have k1 := x1.cell 0 _ rfl; have k2 := x1.cell 1 _ rfl; have k3 := x2.cell 0 _ rfl; have k4 := x2.cell 1 _ rfl
  go_wp2_with (first
    | (go_at_call 13; (with_reducible refine (c4.out _).mono ?_); rintro e w4 ⟨rfl, hb4⟩))
  go_ret
  exact ⟨rfl, l2.trans (hb4.mono l2.size)⟩

end Go.Proofs.YtpjjbdpkhmeldaaDoor
