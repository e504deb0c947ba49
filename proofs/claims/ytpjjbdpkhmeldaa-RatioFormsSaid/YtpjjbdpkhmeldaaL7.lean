/- the law RatioOps: the walk -/
import Derived.Test.YtpjjbdpkhmeldaaR8
import Derived.Test.YtpjjbdpkhmeldaaL1
import Derived.Test.YtpjjbdpkhmeldaaL2
namespace Go.Proofs.Ytpjjbdpkhmeldaa
open Go.RowKit

theorem B2.al {w : World} {an ad bn bd : Int} {w1 : World} (h : B2 w an ad bn bd w1) (o : Obj) : B2 w an ad bn bd (w1.alloc o) := h.step ((Below.refl _ _).alloc (Nat.le_refl _) _)

set_option maxRecDepth 100000 in
set_option maxHeartbeats 4000000 in
theorem ops_any (an ad bn bd : Int) (w : World) (han : I64 an) (had : I64 ad) (hbn : I64 bn) (hbd : I64 bd) :
    Calls Try.prog 4 #[.agg #[.int .i64 an, .int .i64 ad], .agg #[.int .i64 bn, .int .i64 bd]] w fun e w' => e = .returned (.bool true) ∧ Below w.heap.size w w' := by
  have hS := B2.start w an ad bn bd
  have CA := Lib.hid (fun wx => awake_any wx)
  have Cadd1 := Lib.hid (fun wx => add_ratio an ad bn bd wx han had hbn hbd)
  have Cadd2 := Lib.hid (fun wx => radd_ratio an ad bn bd wx han had hbn hbd)
  obtain ⟨⟨addx, addy, adde⟩, hadd⟩ : ∃ x, x = addS an ad bn bd := ⟨_, rfl⟩
  rw [← hadd] at Cadd1 Cadd2
  clear hadd
  unfold RatE at Cadd1 Cadd2
  simp only [] at Cadd1 Cadd2
  have Csub1 := Lib.hid (fun wx => sub_ratio an ad bn bd wx han had hbn hbd)
  have Csub2 := Lib.hid (fun wx => rsub_ratio an ad bn bd wx han had hbn hbd)
  obtain ⟨⟨subx, suby, sube⟩, hsub⟩ : ∃ x, x = subS an ad bn bd := ⟨_, rfl⟩
  rw [← hsub] at Csub1 Csub2
  clear hsub
  unfold RatE at Csub1 Csub2
  simp only [] at Csub1 Csub2
  have Cmul1 := Lib.hid (fun wx => mul_ratio an ad bn bd wx han had hbn hbd)
  have Cmul2 := Lib.hid (fun wx => rmul_ratio an ad bn bd wx han had hbn hbd)
  obtain ⟨⟨mulx, muly, mule⟩, hmul⟩ : ∃ x, x = mulS an ad bn bd := ⟨_, rfl⟩
  rw [← hmul] at Cmul1 Cmul2
  clear hmul
  unfold RatE at Cmul1 Cmul2
  simp only [] at Cmul1 Cmul2
  have Cdiv1 := Lib.hid (fun wx => div_ratio an ad bn bd wx han had hbn hbd)
  have Cdiv2 := Lib.hid (fun wx => rdiv_ratio an ad bn bd wx han had hbn hbd)
  obtain ⟨⟨divx, divy, dive⟩, hdiv⟩ : ∃ x, x = divS an ad bn bd := ⟨_, rfl⟩
  rw [← hdiv] at Cdiv1 Cdiv2
  clear hdiv
  unfold RatE at Cdiv1 Cdiv2
  simp only [] at Cdiv1 Cdiv2
  go_enter Try.func4, Try.ntmps4
  go_wp2_with fail
  (with_reducible refine (CA.out _).mono ?_)
  rintro e w0 ⟨rfl, hbx⟩
  replace hS := hS.step hbx
  clear hbx CA
  obtain ⟨k1, k2, k3, k4⟩ := hS.cells
  go_wp2_with fail
  (with_reducible refine (Cadd1.out _).mono ?_)
  clear k1 k2 k3 k4 Cadd1
  rintro e w1 ⟨rfl, hbx⟩
  replace hS := (hS.step hbx).al (Obj.cells #[.int .i64 addx, .int .i64 addy] 25)
  have x1 := Box.made w1 25 [.int .i64 addx, .int .i64 addy]
  clear hbx
  obtain ⟨k1, k2, k3, k4⟩ := hS.cells
  go_wp2_with fail
  (with_reducible refine (Cadd2.out _).mono ?_)
  clear k1 k2 k3 k4 Cadd2
  rintro e w2 ⟨rfl, hbx⟩
  replace hS := (hS.step hbx).al (Obj.cells #[.int .i64 addx, .int .i64 addy] 25)
  replace x1 := (x1.below hbx).alloc (Obj.cells #[.int .i64 addx, .int .i64 addy] 25)
  have x2 := Box.made w2 25 [.int .i64 addx, .int .i64 addy]
  clear hbx
  obtain ⟨k1, k2, k3, k4⟩ := hS.cells
  go_wp2_with fail
  (with_reducible refine (Csub1.out _).mono ?_)
  clear k1 k2 k3 k4 Csub1
  rintro e w3 ⟨rfl, hbx⟩
  replace hS := (hS.step hbx).al (Obj.cells #[.int .i64 subx, .int .i64 suby] 25)
  replace x1 := (x1.below hbx).alloc (Obj.cells #[.int .i64 subx, .int .i64 suby] 25)
  replace x2 := (x2.below hbx).alloc (Obj.cells #[.int .i64 subx, .int .i64 suby] 25)
  have x3 := Box.made w3 25 [.int .i64 subx, .int .i64 suby]
  clear hbx
  obtain ⟨k1, k2, k3, k4⟩ := hS.cells
  go_wp2_with fail
  (with_reducible refine (Csub2.out _).mono ?_)
  clear k1 k2 k3 k4 Csub2
  rintro e w4 ⟨rfl, hbx⟩
  replace hS := (hS.step hbx).al (Obj.cells #[.int .i64 subx, .int .i64 suby] 25)
  replace x1 := (x1.below hbx).alloc (Obj.cells #[.int .i64 subx, .int .i64 suby] 25)
  replace x2 := (x2.below hbx).alloc (Obj.cells #[.int .i64 subx, .int .i64 suby] 25)
  replace x3 := (x3.below hbx).alloc (Obj.cells #[.int .i64 subx, .int .i64 suby] 25)
  have x4 := Box.made w4 25 [.int .i64 subx, .int .i64 suby]
  clear hbx
  obtain ⟨k1, k2, k3, k4⟩ := hS.cells
  go_wp2_with fail
  (with_reducible refine (Cmul1.out _).mono ?_)
  clear k1 k2 k3 k4 Cmul1
  rintro e w5 ⟨rfl, hbx⟩
  replace hS := (hS.step hbx).al (Obj.cells #[.int .i64 mulx, .int .i64 muly] 25)
  replace x1 := (x1.below hbx).alloc (Obj.cells #[.int .i64 mulx, .int .i64 muly] 25)
  replace x2 := (x2.below hbx).alloc (Obj.cells #[.int .i64 mulx, .int .i64 muly] 25)
  replace x3 := (x3.below hbx).alloc (Obj.cells #[.int .i64 mulx, .int .i64 muly] 25)
  replace x4 := (x4.below hbx).alloc (Obj.cells #[.int .i64 mulx, .int .i64 muly] 25)
  have x5 := Box.made w5 25 [.int .i64 mulx, .int .i64 muly]
  clear hbx
  obtain ⟨k1, k2, k3, k4⟩ := hS.cells
  go_wp2_with fail
  (with_reducible refine (Cmul2.out _).mono ?_)
  clear k1 k2 k3 k4 Cmul2
  rintro e w6 ⟨rfl, hbx⟩
  replace hS := (hS.step hbx).al (Obj.cells #[.int .i64 mulx, .int .i64 muly] 25)
  replace x1 := (x1.below hbx).alloc (Obj.cells #[.int .i64 mulx, .int .i64 muly] 25)
  replace x2 := (x2.below hbx).alloc (Obj.cells #[.int .i64 mulx, .int .i64 muly] 25)
  replace x3 := (x3.below hbx).alloc (Obj.cells #[.int .i64 mulx, .int .i64 muly] 25)
  replace x4 := (x4.below hbx).alloc (Obj.cells #[.int .i64 mulx, .int .i64 muly] 25)
  replace x5 := (x5.below hbx).alloc (Obj.cells #[.int .i64 mulx, .int .i64 muly] 25)
  have x6 := Box.made w6 25 [.int .i64 mulx, .int .i64 muly]
  clear hbx
  obtain ⟨k1, k2, k3, k4⟩ := hS.cells
  go_wp2_with fail
  (with_reducible refine (Cdiv1.out _).mono ?_)
  clear k1 k2 k3 k4 Cdiv1
  rintro e w7 ⟨rfl, hbx⟩
  replace hS := (hS.step hbx).al (Obj.cells #[.int .i64 divx, .int .i64 divy] 25)
  replace x1 := (x1.below hbx).alloc (Obj.cells #[.int .i64 divx, .int .i64 divy] 25)
  replace x2 := (x2.below hbx).alloc (Obj.cells #[.int .i64 divx, .int .i64 divy] 25)
  replace x3 := (x3.below hbx).alloc (Obj.cells #[.int .i64 divx, .int .i64 divy] 25)
  replace x4 := (x4.below hbx).alloc (Obj.cells #[.int .i64 divx, .int .i64 divy] 25)
  replace x5 := (x5.below hbx).alloc (Obj.cells #[.int .i64 divx, .int .i64 divy] 25)
  replace x6 := (x6.below hbx).alloc (Obj.cells #[.int .i64 divx, .int .i64 divy] 25)
  have x7 := Box.made w7 25 [.int .i64 divx, .int .i64 divy]
  clear hbx
  obtain ⟨k1, k2, k3, k4⟩ := hS.cells
  go_wp2_with fail
  (with_reducible refine (Cdiv2.out _).mono ?_)
  clear k1 k2 k3 k4 Cdiv2
  rintro e w8 ⟨rfl, hbx⟩
  replace hS := (hS.step hbx).al (Obj.cells #[.int .i64 divx, .int .i64 divy] 25)
  replace x1 := (x1.below hbx).alloc (Obj.cells #[.int .i64 divx, .int .i64 divy] 25)
  replace x2 := (x2.below hbx).alloc (Obj.cells #[.int .i64 divx, .int .i64 divy] 25)
  replace x3 := (x3.below hbx).alloc (Obj.cells #[.int .i64 divx, .int .i64 divy] 25)
  replace x4 := (x4.below hbx).alloc (Obj.cells #[.int .i64 divx, .int .i64 divy] 25)
  replace x5 := (x5.below hbx).alloc (Obj.cells #[.int .i64 divx, .int .i64 divy] 25)
  replace x6 := (x6.below hbx).alloc (Obj.cells #[.int .i64 divx, .int .i64 divy] 25)
  replace x7 := (x7.below hbx).alloc (Obj.cells #[.int .i64 divx, .int .i64 divy] 25)
  have x8 := Box.made w8 25 [.int .i64 divx, .int .i64 divy]
  clear hbx
  have l1 := x1.cell 0 _ rfl
  have m1 := x1.cell 1 _ rfl
  have l2 := x2.cell 0 _ rfl
  have m2 := x2.cell 1 _ rfl
  have l3 := x3.cell 0 _ rfl
  have m3 := x3.cell 1 _ rfl
  have l4 := x4.cell 0 _ rfl
  have m4 := x4.cell 1 _ rfl
  have l5 := x5.cell 0 _ rfl
  have m5 := x5.cell 1 _ rfl
  have l6 := x6.cell 0 _ rfl
  have m6 := x6.cell 1 _ rfl
  have l7 := x7.cell 0 _ rfl
  have m7 := x7.cell 1 _ rfl
  have l8 := x8.cell 0 _ rfl
  have m8 := x8.cell 1 _ rfl
  clear x1 x2 x3 x4 x5 x6 x7 x8
  go_wp2
  go_ret
  exact ⟨rfl, hS.1⟩

end Go.Proofs.Ytpjjbdpkhmeldaa
