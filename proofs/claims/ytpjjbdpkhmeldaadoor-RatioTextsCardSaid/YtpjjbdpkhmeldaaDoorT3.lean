/- contracts of ratio's Show, Parse -/
import Derived.Test.YtpjjbdpkhmeldaaDoorT2
import Derived.Lib.IndexMore
import Derived.Lib.SmallJoins
import Derived.Lib.ItoaLen
namespace Go.Proofs.YtpjjbdpkhmeldaaDoor
open Go.RowKit

theorem itoa_neg (n : Int) : Lib.itoa n = (if decide (n < 0) then [45] else []) ++ Lib.decDigits n.natAbs := by
  unfold Lib.itoa
  by_cases h : n < 0
  · rw [if_pos h, decide_eq_true h]; rfl
  · rw [if_neg h, decide_eq_false h]
    have : n.toNat = n.natAbs := by omega
    rw [this]; rfl

theorem itoa_size (n : Int) (hn : I64 n) : (⟨(Lib.itoa n).toArray⟩ : ByteArray).size ≤ 21 := by
  show (Lib.itoa n).toArray.size ≤ 21
  rw [List.size_toArray]
  exact Lib.itoa_length_le n hn.1 hn.2

theorem addStr (a b c : ByteArray) (h : a ++ b = c) (h1 : a.size ≤ 2000) (h2 : b.size ≤ 2000) (w : World) : (Op.stringOp .add a b).run Tryd.prog w = .ok (.string c) w := by
  rw [run_string_add_sum w a b (by omega), h]

theorem itoa_pos (d : Int) (h : 1 ≤ d) : Lib.itoa d = Lib.decDigits d.natAbs := by
  rw [itoa_neg, decide_eq_false (by omega)]; rfl

/-- a ratio's box -/
def ShS (w : World) (n d : Int) (w' : World) : Prop := Below w.heap.size w w' ∧ Box w' w.heap.size 23 [.int .i64 n, .int .i64 d]
theorem ShS.step {w : World} {n d : Int} {w1 w2 : World} (hb : Below w1.heap.size w1 w2) (h : ShS w n d w1) : ShS w n d w2 := ⟨h.1.trans (hb.mono h.1.size), h.2.below hb⟩
theorem ShS.drew {w : World} {n d : Int} {w1 : World} (h : ShS w n d w1) : ShS w n d w1.drew := ⟨h.1.drew, h.2⟩
theorem ShS.start (w : World) (n d : Int) : ShS w n d (w.alloc (Obj.cells #[.int .i64 n, .int .i64 d] 23)) := ⟨(Below.refl _ _).alloc (Nat.le_refl _) _, Box.made w 23 _⟩
theorem ShS.all {w : World} {n d : Int} {w' : World} (h : ShS w n d w') : ShS w n d w' ∧ w'.cell? ⟨w.heap.size, 0, none⟩ = some (.int .i64 n) ∧ w'.cell? ⟨w.heap.size, 1, none⟩ = some (.int .i64 d) := ⟨h, h.2.cell 0 _ rfl, h.2.cell 1 _ rfl⟩

set_option maxHeartbeats 1000000 in
theorem show_any (n d : Int) (w : World) (hn : I64 n) (hd : I64 d) (hE : Env w) :
    Calls Tryd.prog 5 #[.agg #[.int .i64 n, .int .i64 d]] w fun e w' => ∃ s : ByteArray, e = .returned (.string s) ∧ s.data.toList = showS n d ∧ Below w.heap.size w w' := by
  have hS := ShS.start w n d
  rcases Bool.eq_false_or_eq_true (validB n d) with hv | hv
  · obtain ⟨g1, g2, g3, g4, g5⟩ := validB_true hv
    have HV := Lib.hid hv
    have hT : showS n d = textS (decide (n < 0)) n.natAbs d.natAbs := by unfold showS; rw [hv]; rfl
    have HT := Lib.hid hT
    clear hv g5 hT
    have V := Lib.hid (fun wx => valid_any n d true HV.out wx hn hd)
    by_cases h1 : d = 1
    · subst h1
      go_enter Tryd.func5, Tryd.ntmps5
      go_wp2_with fail
      refine (V.out _).mono ?_
      rintro e w1 ⟨rfl, hb⟩
      replace hS := hS.step hb
      obtain ⟨_, k0, k1⟩ := hS.all
      have CI := Lib.hid (itoa_any n w1 hn (hE.below hS.1))
      clear hb
      go_wp2_with fail
      refine CI.out.mono ?_
      rintro e w2 ⟨rfl, hb⟩
      go_wp2
      go_ret
      refine ⟨_, rfl, ?_, (hS.step hb).1⟩
      rw [HT.out]
      show Lib.itoa n = _
      unfold textS
      rw [if_pos (show (1:Int).natAbs = 1 from rfl), List.append_nil, itoa_neg]
    · have hz : (d == 1) = false := by simpa using h1
      have hz2 : ¬ d.natAbs = 1 := by omega
      have hi2 := itoa_pos d g1
      have HI2 := Lib.hid hi2
      clear hi2 h1
      go_enter Tryd.func5, Tryd.ntmps5
      go_wp2_with fail
      refine (V.out _).mono ?_
      rintro e w1 ⟨rfl, hb⟩
      replace hS := hS.step hb
      clear hb V
      have hE1 := hE.below hS.1
      have hbd : Below w1.heap.size w1 w1.drew := (Below.refl _ _).drew
      obtain ⟨sA, hA⟩ : ∃ x : ByteArray, x = ⟨(Lib.itoa n).toArray⟩ := ⟨_, rfl⟩
      obtain ⟨sB, hB⟩ : ∃ x : ByteArray, x = ⟨(Lib.itoa d).toArray⟩ := ⟨_, rfl⟩
      obtain ⟨sC, hC⟩ : ∃ x : ByteArray, sA ++ ⟨#[47]⟩ = x := ⟨_, rfl⟩
      obtain ⟨sD, hD⟩ : ∃ x : ByteArray, sC ++ sB = x := ⟨_, rfl⟩
      have CI : Hid (∀ (wx : World), ShS w n d wx → Calls Tryd.prog 15 #[.int .i64 n] wx fun e w' => e = .returned (.string sA) ∧ Below wx.heap.size wx w') := Lib.hid (fun wx h => by rw [hA]; exact itoa_any n wx hn (hE.below h.1))
      have CI2 : Hid (∀ (wx : World), ShS w n d wx → Calls Tryd.prog 15 #[.int .i64 d] wx fun e w' => e = .returned (.string sB) ∧ Below wx.heap.size wx w') := Lib.hid (fun wx h => by rw [hB]; exact itoa_any d wx hd (hE.below h.1))
      have zA : sA.size ≤ 21 := by rw [hA]; exact itoa_size n hn
      have zB : sB.size ≤ 21 := by rw [hB]; exact itoa_size d hd
      have zC : sC.size ≤ 100 := by rw [← hC, ByteArray.size_append]; have : (⟨#[47]⟩ : ByteArray).size = 1 := rfl; omega
      have hadd1 := addStr sA ⟨#[47]⟩ sC hC (by omega) (by decide)
      have hadd2 := addStr sC sB sD hD (by omega) (by omega)
      have hRES : sD.data.toList = showS n d := by
        rw [HT.out, ← hD, ByteArray.data_append, ← hC, ByteArray.data_append]
        unfold textS
        rw [if_neg hz2, ← HI2.out, hA, hB]
        rw [Array.toList_append, Array.toList_append]
        show (Lib.itoa n ++ [47]) ++ Lib.itoa d = _
        rw [itoa_neg n]
        simp
      have HRES := Lib.hid hRES
      clear hRES hA hB hC hD zA zB zC HI2 hz2
      have hS0 := hS.drew
      obtain ⟨_, k0, k1⟩ := hS.all
      go_wp2
      go_region_held3 (fun w' => ShS w n d w' ∧ w'.cell? ⟨w.heap.size, 0, none⟩ = some (.int .i64 n) ∧ w'.cell? ⟨w.heap.size, 1, none⟩ = some (.int .i64 d)) (first | exact ShS.all (by assumption))
        (first
          | (go_at_call 15; (with_reducible refine (CI.out _ hS0).mono ?_); rintro e w2 ⟨rfl, hb2⟩; have hS1 := hS0.step hb2)
          | (go_at_call 15; (with_reducible refine (CI2.out _ hS1).mono ?_); rintro e w3 ⟨rfl, hb3⟩; have hS2 := hS1.step hb3))
      all_goals go_wp2
      all_goals go_ret
      all_goals exact ⟨_, rfl, HRES.out, hS2.1⟩
  · have hT : showS n d = [] := by unfold showS; rw [hv]; rfl
    have HT := Lib.hid hT
    have HV := Lib.hid hv
    clear hv hT
    go_enter Tryd.func5, Tryd.ntmps5
    go_wp2_with fail
    refine (valid_any n d false HV.out _ hn hd).mono ?_
    rintro e w1 ⟨rfl, hb⟩
    go_wp2
    go_ret
    exact ⟨_, rfl, by rw [HT.out], (hS.step hb).1⟩

theorem idx47 (l : List UInt8) : (l.dropWhile (· != 47) = [] ∧ Lib.index l [47] = -1) ∨ (l.dropWhile (· != 47) ≠ [] ∧ Lib.index l [47] = ((l.takeWhile (· != 47)).length : Int)) := by
  induction l with
  | nil => left; exact ⟨rfl, rfl⟩
  | cons a l ih =>
    unfold Lib.index
    by_cases h : a = 47
    · subst h
      right
      refine ⟨by simp, ?_⟩
      simp
    · have hp : ([47] : List UInt8).isPrefixOf (a :: l) = false := by
        show ((47 == a) && _) = false
        have : ((47 : UInt8) == a) = false := beq_eq_false_iff_ne.2 (fun e => h e.symm)
        rw [this]; rfl
      have hb : (a != 47) = true := by simpa using h
      rw [hp, List.takeWhile_cons, List.dropWhile_cons, hb]
      simp only [Bool.false_eq_true, if_false, if_true]
      rcases ih with ⟨h1, h2⟩ | ⟨h1, h2⟩
      · left; rw [h2]; exact ⟨h1, rfl⟩
      · right
        rw [h2]
        refine ⟨h1, ?_⟩
        have : ((((l.takeWhile (· != 47)).length : Int)) == -1) = false := beq_eq_false_iff_ne.2 (by omega)
        rw [this]
        simp

theorem cut47 (l : List UInt8) : Lib.cut l [47] = (l.takeWhile (· != 47), (l.dropWhile (· != 47)).drop 1, decide (l.dropWhile (· != 47) ≠ [])) := by
  unfold Lib.cut
  have hsp : l = l.takeWhile (· != 47) ++ l.dropWhile (· != 47) := List.takeWhile_append_dropWhile.symm
  rcases idx47 l with ⟨h1, h2⟩ | ⟨h1, h2⟩
  · rw [h2, if_neg (by omega), h1]
    rw [h1, List.append_nil] at hsp
    rw [← hsp]; rfl
  · rw [h2, if_pos (by omega), Int.toNat_natCast, decide_eq_true h1]
    have e1 : l.take (l.takeWhile (· != 47)).length = l.takeWhile (· != 47) := by
      conv => lhs; arg 2; rw [hsp]
      exact List.take_left' rfl
    have e2 : l.drop ((l.takeWhile (· != 47)).length + 1) = (l.dropWhile (· != 47)).drop 1 := by
      conv => lhs; arg 2; rw [hsp]
      rw [List.drop_append]
      simp
    rw [e1]
    show (_, l.drop ((l.takeWhile (· != 47)).length + 1), _) = _
    rw [e2]

theorem prefix45 (l : List UInt8) : Lib.hasPrefix l [45] = negP l ∧ Lib.trimPrefix l [45] = restP l := by
  have h1 : Lib.hasPrefix l [45] = negP l := by
    unfold Lib.hasPrefix negP
    cases l with
    | nil => rfl
    | cons a r => by_cases h : a = 45
                  · subst h; simp
                  · have : ((45 : UInt8) == a) = false := beq_eq_false_iff_ne.2 (fun e => h e.symm)
                    show ((45 == a) && _) = _
                    rw [this]; simp [h]
  refine ⟨h1, ?_⟩
  unfold Lib.trimPrefix restP
  rw [h1]; rfl

end Go.Proofs.YtpjjbdpkhmeldaaDoor
