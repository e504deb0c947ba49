/- the law RatioField: the walk -/
import Derived.Test.YtpjjbdpkhmeldaaL5
namespace Go.Proofs.Ytpjjbdpkhmeldaa
open Go.RowKit

set_option maxHeartbeats 1000000 in
theorem same_refl (x y e : Int) (w : World) :
    Calls Try.prog 21 #[.agg #[.int .i64 x, .int .i64 y], .int .i64 e, .agg #[.int .i64 x, .int .i64 y], .int .i64 e] w fun e w' => e = .returned (.bool true) ∧ Below w.heap.size w w' := by
  have hx := Box.made w 25 [.int .i64 x, .int .i64 y]
  have hx2 := hx.alloc (Obj.cells #[.int .i64 x, .int .i64 y] 25)
  have hy := Box.made (w.alloc (Obj.cells #[.int .i64 x, .int .i64 y] 25)) 25 [.int .i64 x, .int .i64 y]
  rw [alloc_size] at hy
  have hbl : Below w.heap.size w ((w.alloc (Obj.cells #[.int .i64 x, .int .i64 y] 25)).alloc (Obj.cells #[.int .i64 x, .int .i64 y] 25)) := ((Below.refl _ _).alloc (Nat.le_refl _) _).alloc (by simp) _
  have k1 := hx2.cell 0 _ rfl
  have k2 := hx2.cell 1 _ rfl
  have k3 := hy.cell 0 _ rfl
  have k4 := hy.cell 1 _ rfl
  by_cases he : e = 0
  · subst he
    go_enter Try.func21, Try.ntmps21
    go_wp2
    go_ret
    exact ⟨rfl, hbl⟩
  · have he2 : (e != 0) = true := by simpa using he
    have he3 : (e == 0) = false := by simpa using he
    go_enter Try.func21, Try.ntmps21
    go_wp2
    go_ret
    exact ⟨rfl, hbl⟩

set_option maxRecDepth 100000 in
set_option maxHeartbeats 1000000 in
theorem field_e0 (an ad bn bd cn cd : Int) (w : World) (ian : I64 an) (iad : I64 ad) (_ibn : I64 bn) (_ibd : I64 bd) (_icn : I64 cn) (_icd : I64 cd) (ha : Hid (validB an ad = false)) :
    Calls Try.prog 5 #[.agg #[.int .i64 an, .int .i64 ad], .agg #[.int .i64 bn, .int .i64 bd], .agg #[.int .i64 cn, .int .i64 cd]] w fun e w' => e = .returned (.bool true) ∧ Below w.heap.size w w' := by
  have hS := TrS.start w an ad bn bd cn cd
  have CA := Lib.hid (fun wx => awake_any wx)
  have CVa := Lib.hid (fun wx => rvalid_any an ad false ha.out wx ian iad)
  go_enter Try.func5, Try.ntmps5
  go_wp2_with fail
  (with_reducible refine (CA.out _).mono ?_)
  rintro e w1 ⟨rfl, hbx⟩
  replace hS := hS.step hbx
  clear hbx CA
  obtain ⟨k1, k2, k3, k4, k5, k6⟩ := hS.cells
  go_wp2_with fail
  (with_reducible refine (CVa.out _).mono ?_)
  clear k1 k2 k3 k4 k5 k6 CVa
  rintro e w2 ⟨rfl, hbx⟩
  replace hS := hS.step hbx
  clear hbx
  obtain ⟨k1, k2, k3, k4, k5, k6⟩ := hS.cells
  go_wp2
  go_ret
  exact ⟨rfl, hS.1⟩

set_option maxRecDepth 100000 in
set_option maxHeartbeats 1000000 in
theorem field_e1 (an ad bn bd cn cd : Int) (w : World) (ian : I64 an) (iad : I64 ad) (ibn : I64 bn) (ibd : I64 bd) (_icn : I64 cn) (_icd : I64 cd) (ha : Hid (validB an ad = true)) (hb : Hid (validB bn bd = false)) :
    Calls Try.prog 5 #[.agg #[.int .i64 an, .int .i64 ad], .agg #[.int .i64 bn, .int .i64 bd], .agg #[.int .i64 cn, .int .i64 cd]] w fun e w' => e = .returned (.bool true) ∧ Below w.heap.size w w' := by
  have hS := TrS.start w an ad bn bd cn cd
  have CA := Lib.hid (fun wx => awake_any wx)
  have CVa := Lib.hid (fun wx => rvalid_any an ad true ha.out wx ian iad)
  have CVb := Lib.hid (fun wx => rvalid_any bn bd false hb.out wx ibn ibd)
  go_enter Try.func5, Try.ntmps5
  go_wp2_with fail
  (with_reducible refine (CA.out _).mono ?_)
  rintro e w1 ⟨rfl, hbx⟩
  replace hS := hS.step hbx
  clear hbx CA
  obtain ⟨k1, k2, k3, k4, k5, k6⟩ := hS.cells
  go_wp2_with fail
  (with_reducible refine (CVa.out _).mono ?_)
  clear k1 k2 k3 k4 k5 k6 CVa
  rintro e w2 ⟨rfl, hbx⟩
  replace hS := hS.step hbx
  clear hbx
  obtain ⟨k1, k2, k3, k4, k5, k6⟩ := hS.cells
  go_wp2_with fail
  (with_reducible refine (CVb.out _).mono ?_)
  clear k1 k2 k3 k4 k5 k6 CVb
  rintro e w3 ⟨rfl, hbx⟩
  replace hS := hS.step hbx
  clear hbx
  obtain ⟨k1, k2, k3, k4, k5, k6⟩ := hS.cells
  go_wp2
  go_ret
  exact ⟨rfl, hS.1⟩

set_option maxRecDepth 100000 in
set_option maxHeartbeats 1000000 in
theorem field_e2 (an ad bn bd cn cd : Int) (w : World) (ian : I64 an) (iad : I64 ad) (ibn : I64 bn) (ibd : I64 bd) (icn : I64 cn) (icd : I64 cd) (ha : Hid (validB an ad = true)) (hb : Hid (validB bn bd = true)) (hc : Hid (validB cn cd = false)) :
    Calls Try.prog 5 #[.agg #[.int .i64 an, .int .i64 ad], .agg #[.int .i64 bn, .int .i64 bd], .agg #[.int .i64 cn, .int .i64 cd]] w fun e w' => e = .returned (.bool true) ∧ Below w.heap.size w w' := by
  have hS := TrS.start w an ad bn bd cn cd
  have CA := Lib.hid (fun wx => awake_any wx)
  have CVa := Lib.hid (fun wx => rvalid_any an ad true ha.out wx ian iad)
  have CVb := Lib.hid (fun wx => rvalid_any bn bd true hb.out wx ibn ibd)
  have CVc := Lib.hid (fun wx => rvalid_any cn cd false hc.out wx icn icd)
  go_enter Try.func5, Try.ntmps5
  go_wp2_with fail
  (with_reducible refine (CA.out _).mono ?_)
  rintro e w1 ⟨rfl, hbx⟩
  replace hS := hS.step hbx
  clear hbx CA
  obtain ⟨k1, k2, k3, k4, k5, k6⟩ := hS.cells
  go_wp2_with fail
  (with_reducible refine (CVa.out _).mono ?_)
  clear k1 k2 k3 k4 k5 k6 CVa
  rintro e w2 ⟨rfl, hbx⟩
  replace hS := hS.step hbx
  clear hbx
  obtain ⟨k1, k2, k3, k4, k5, k6⟩ := hS.cells
  go_wp2_with fail
  (with_reducible refine (CVb.out _).mono ?_)
  clear k1 k2 k3 k4 k5 k6 CVb
  rintro e w3 ⟨rfl, hbx⟩
  replace hS := hS.step hbx
  clear hbx
  obtain ⟨k1, k2, k3, k4, k5, k6⟩ := hS.cells
  go_wp2_with fail
  (with_reducible refine (CVc.out _).mono ?_)
  clear k1 k2 k3 k4 k5 k6 CVc
  rintro e w4 ⟨rfl, hbx⟩
  replace hS := hS.step hbx
  clear hbx
  obtain ⟨k1, k2, k3, k4, k5, k6⟩ := hS.cells
  go_wp2
  go_ret
  exact ⟨rfl, hS.1⟩

/-- three ratios' boxes and one more -/
def FpS (w : World) (an ad bn bd cn cd : Int) (b : Nat) (p q : Int) (w' : World) : Prop := TrS w an ad bn bd cn cd w' ∧ Box w' b 25 [.int .i64 p, .int .i64 q]
section
variable {w : World} {an ad bn bd cn cd : Int} {b : Nat} {p q : Int}
theorem FpS.step {w1 w2 : World} (hb : Below w1.heap.size w1 w2) (h : FpS w an ad bn bd cn cd b p q w1) : FpS w an ad bn bd cn cd b p q w2 := ⟨h.1.step hb, h.2.below hb⟩
theorem FpS.al {w1 : World} (h : FpS w an ad bn bd cn cd b p q w1) (o : Obj) : FpS w an ad bn bd cn cd b p q (w1.alloc o) := ⟨h.1.al o, h.2.alloc o⟩
theorem FpS.cells {w' : World} (h : FpS w an ad bn bd cn cd b p q w') :
    w'.cell? ⟨w.heap.size, 0, none⟩ = some (.int .i64 an) ∧ w'.cell? ⟨w.heap.size, 1, none⟩ = some (.int .i64 ad) ∧ w'.cell? ⟨w.heap.size + 1, 0, none⟩ = some (.int .i64 bn) ∧ w'.cell? ⟨w.heap.size + 1, 1, none⟩ = some (.int .i64 bd) ∧
    w'.cell? ⟨w.heap.size + 1 + 1, 0, none⟩ = some (.int .i64 cn) ∧ w'.cell? ⟨w.heap.size + 1 + 1, 1, none⟩ = some (.int .i64 cd) ∧ w'.cell? ⟨b, 0, none⟩ = some (.int .i64 p) ∧ w'.cell? ⟨b, 1, none⟩ = some (.int .i64 q) :=
  ⟨h.1.2.1.cell 0 _ rfl, h.1.2.1.cell 1 _ rfl, h.1.2.2.1.cell 0 _ rfl, h.1.2.2.1.cell 1 _ rfl, h.1.2.2.2.cell 0 _ rfl, h.1.2.2.2.cell 1 _ rfl, h.2.cell 0 _ rfl, h.2.cell 1 _ rfl⟩
end

set_option maxRecDepth 100000 in
set_option maxHeartbeats 4000000 in
theorem field_ok (an ad bn bd cn cd : Int) (w : World) (ian : I64 an) (iad : I64 ad) (ibn : I64 bn) (ibd : I64 bd) (icn : I64 cn) (icd : I64 cd) (ha : Hid (validB an ad = true)) (hb : Hid (validB bn bd = true)) (hc : Hid (validB cn cd = true)) :
    Calls Try.prog 5 #[.agg #[.int .i64 an, .int .i64 ad], .agg #[.int .i64 bn, .int .i64 bd], .agg #[.int .i64 cn, .int .i64 cd]] w fun e w' => e = .returned (.bool true) ∧ Below w.heap.size w w' := by
  have hS0 := TrS.start w an ad bn bd cn cd
  have CA := Lib.hid (fun wx => awake_any wx)
  have CVa := Lib.hid (fun wx => rvalid_any an ad true ha.out wx ian iad)
  have CVb := Lib.hid (fun wx => rvalid_any bn bd true hb.out wx ibn ibd)
  have CVc := Lib.hid (fun wx => rvalid_any cn cd true hc.out wx icn icd)
  have CAB := Lib.hid (fun wx => add_ratio an ad bn bd wx ian iad ibn ibd)
  have CBA := Lib.hid (fun wx => add_ratio bn bd an ad wx ibn ibd ian iad)
  have CMAB := Lib.hid (fun wx => mul_ratio an ad bn bd wx ian iad ibn ibd)
  have CMBA := Lib.hid (fun wx => mul_ratio bn bd an ad wx ibn ibd ian iad)
  rw [add_comm_R an ad bn bd ha.out hb.out] at CBA
  rw [mul_comm_R an ad bn bd ha.out hb.out] at CMBA
  obtain ⟨s1, s2, s3, hs⟩ : ∃ s1 s2 s3, (s1, s2, s3) = addS an ad bn bd := ⟨_, _, _, rfl⟩
  obtain ⟨p1, p2, p3, hp⟩ : ∃ p1 p2 p3, (p1, p2, p3) = mulS an ad bn bd := ⟨_, _, _, rfl⟩
  rw [← hs] at CAB CBA
  rw [← hp] at CMAB CMBA
  obtain ⟨is1, is2, es3, fs⟩ := add_facts an ad bn bd ha.out hb.out s1 s2 s3 hs
  obtain ⟨ip1, ip2, ep3, fp⟩ := mul_facts an ad bn bd ha.out hb.out p1 p2 p3 hp
  have HS3 := Lib.hid hs
  have HP3 := Lib.hid hp
  have ES3 := Lib.hid es3
  have EP3 := Lib.hid ep3
  have FS := Lib.hid fs
  have FP := Lib.hid fp
  clear hs hp es3 ep3 fs fp
  unfold RatE at CAB CBA CMAB CMBA
  simp only [] at CAB CBA CMAB CMBA
  go_enter Try.func5, Try.ntmps5
  go_wp2_with fail
  (with_reducible refine (CA.out _).mono ?_)
  rintro e w1 ⟨rfl, hbx⟩
  replace hS0 := hS0.step hbx
  clear hbx CA
  obtain ⟨k1, k2, k3, k4, k5, k6⟩ := hS0.cells
  go_wp2_with fail
  (with_reducible refine (CVa.out _).mono ?_)
  clear k1 k2 k3 k4 k5 k6 CVa
  rintro e w2 ⟨rfl, hbx⟩
  replace hS0 := hS0.step hbx
  clear hbx
  obtain ⟨k1, k2, k3, k4, k5, k6⟩ := hS0.cells
  go_wp2_with fail
  (with_reducible refine (CVb.out _).mono ?_)
  clear k1 k2 k3 k4 k5 k6 CVb
  rintro e w3 ⟨rfl, hbx⟩
  replace hS0 := hS0.step hbx
  clear hbx
  obtain ⟨k1, k2, k3, k4, k5, k6⟩ := hS0.cells
  go_wp2_with fail
  (with_reducible refine (CVc.out _).mono ?_)
  clear k1 k2 k3 k4 k5 k6 CVc
  rintro e w4 ⟨rfl, hbx⟩
  replace hS0 := hS0.step hbx
  clear hbx
  obtain ⟨k1, k2, k3, k4, k5, k6⟩ := hS0.cells
  go_wp2_with fail
  (with_reducible refine (CAB.out _).mono ?_)
  clear k1 k2 k3 k4 k5 k6 CAB
  rintro e u1 ⟨rfl, hbx⟩
  replace hS0 := (hS0.step hbx).al (Obj.cells #[.int .i64 s1, .int .i64 s2] 25)
  have x1 := Box.made u1 25 [.int .i64 s1, .int .i64 s2]
  clear hbx
  obtain ⟨k1, k2, k3, k4, k5, k6⟩ := hS0.cells
  go_wp2_with fail
  (with_reducible refine (CBA.out _).mono ?_)
  clear k1 k2 k3 k4 k5 k6 CBA
  rintro e u2 ⟨rfl, hbx⟩
  replace hS0 := (hS0.step hbx).al (Obj.cells #[.int .i64 s1, .int .i64 s2] 25)
  replace x1 := (x1.below hbx).alloc (Obj.cells #[.int .i64 s1, .int .i64 s2] 25)
  have x2 := Box.made u2 25 [.int .i64 s1, .int .i64 s2]
  clear hbx
  obtain ⟨k1, k2, k3, k4, k5, k6⟩ := hS0.cells
  go_wp2_with fail
  (with_reducible refine (CMAB.out _).mono ?_)
  clear k1 k2 k3 k4 k5 k6 CMAB
  rintro e u3 ⟨rfl, hbx⟩
  replace hS0 := (hS0.step hbx).al (Obj.cells #[.int .i64 p1, .int .i64 p2] 25)
  replace x1 := (x1.below hbx).alloc (Obj.cells #[.int .i64 p1, .int .i64 p2] 25)
  replace x2 := (x2.below hbx).alloc (Obj.cells #[.int .i64 p1, .int .i64 p2] 25)
  have x3 := Box.made u3 25 [.int .i64 p1, .int .i64 p2]
  clear hbx
  obtain ⟨k1, k2, k3, k4, k5, k6⟩ := hS0.cells
  go_wp2_with fail
  (with_reducible refine (CMBA.out _).mono ?_)
  clear k1 k2 k3 k4 k5 k6 CMBA
  rintro e u4 ⟨rfl, hbx⟩
  replace hS0 := (hS0.step hbx).al (Obj.cells #[.int .i64 p1, .int .i64 p2] 25)
  replace x1 := (x1.below hbx).alloc (Obj.cells #[.int .i64 p1, .int .i64 p2] 25)
  replace x2 := (x2.below hbx).alloc (Obj.cells #[.int .i64 p1, .int .i64 p2] 25)
  replace x3 := (x3.below hbx).alloc (Obj.cells #[.int .i64 p1, .int .i64 p2] 25)
  have x4 := Box.made u4 25 [.int .i64 p1, .int .i64 p2]
  clear hbx
  have l1 := x1.cell 0 _ rfl
  have l2 := x1.cell 1 _ rfl
  have l3 := x2.cell 0 _ rfl
  have l4 := x2.cell 1 _ rfl
  have l5 := x3.cell 0 _ rfl
  have l6 := x3.cell 1 _ rfl
  have l7 := x4.cell 0 _ rfl
  have l8 := x4.cell 1 _ rfl
  obtain ⟨bs, hbs⟩ : ∃ b, b = u1.heap.size := ⟨_, rfl⟩
  obtain ⟨bt, hbt⟩ : ∃ b, b = u2.heap.size := ⟨_, rfl⟩
  obtain ⟨bp, hbp⟩ : ∃ b, b = u3.heap.size := ⟨_, rfl⟩
  rw [← hbs] at l1 l2 x1
  rw [← hbt] at l3 l4 x2
  rw [← hbp] at l5 l6 x3
  have hS : FpS w an ad bn bd cn cd bp p1 p2 _ := ⟨hS0, x3⟩
  clear x2 x3 x4 hS0
  rw [← hbs, ← hbt, ← hbp]
  clear hbs hbt hbp
  go_upto_if 97 with fail
  clear l1 l2 l3 l4 l5 l6 l7 l8
  go_cut [97] (fun s97 wx => FpS w an ad bn bd cn cd bp p1 p2 wx)
  case first =>
    rcases ES3.out with h | h
    · subst h
      obtain ⟨hvs, _⟩ := FS.out rfl
      have HVS := Lib.hid hvs
      clear hvs
      have CBK := Lib.hid (fun wx => sub_ratio s1 s2 bn bd wx is1 is2 ibn ibd)
      rw [add_sub_back an ad bn bd s1 s2 ha.out hb.out HS3.out] at CBK
      unfold RatE at CBK
      simp only [] at CBK
      have l1 := x1.cell 0 _ rfl
      have l2 := x1.cell 1 _ rfl
      obtain ⟨k1, k2, k3, k4, k5, k6, k7, k8⟩ := hS.cells
      go_wp2_with fail
      (with_reducible refine (CBK.out _).mono ?_)
      clear k1 k2 k3 k4 k5 k6 k7 k8 l1 l2 CBK
      rintro e v1 ⟨rfl, hbx⟩
      replace hS := (hS.step hbx).al (Obj.cells #[.int .i64 an, .int .i64 ad] 25)
      replace x1 := (x1.below hbx).alloc (Obj.cells #[.int .i64 an, .int .i64 ad] 25)
      have y1 := Box.made v1 25 [.int .i64 an, .int .i64 ad]
      clear hbx
      have m1 := y1.cell 0 _ rfl
      have m2 := y1.cell 1 _ rfl
      have l1 := x1.cell 0 _ rfl
      have l2 := x1.cell 1 _ rfl
      obtain ⟨k1, k2, k3, k4, k5, k6, k7, k8⟩ := hS.cells
      -- x = s + c
      have CX := Lib.hid (fun wx => add_ratio s1 s2 cn cd wx is1 is2 icn icd)
      obtain ⟨a1, a2, a3, hx⟩ : ∃ a1 a2 a3, (a1, a2, a3) = addS s1 s2 cn cd := ⟨_, _, _, rfl⟩
      rw [← hx] at CX
      obtain ⟨ia1, ia2, _, _⟩ := add_facts s1 s2 cn cd HVS.out hc.out a1 a2 a3 hx
      have HX := Lib.hid hx
      clear hx
      unfold RatE at CX
      simp only [] at CX
      go_wp2_with fail
      (with_reducible refine (CX.out _).mono ?_)
      clear k1 k2 k3 k4 k5 k6 k7 k8 l1 l2 m1 m2 CX y1
      rintro e v2 ⟨rfl, hbx⟩
      replace hS := (hS.step hbx).al (Obj.cells #[.int .i64 a1, .int .i64 a2] 25)
      replace x1 := (x1.below hbx).alloc (Obj.cells #[.int .i64 a1, .int .i64 a2] 25)
      have y2 := Box.made v2 25 [.int .i64 a1, .int .i64 a2]
      clear hbx
      -- u = b + c
      have CU := Lib.hid (fun wx => add_ratio bn bd cn cd wx ibn ibd icn icd)
      obtain ⟨c1, c2, c3, hu⟩ : ∃ c1 c2 c3, (c1, c2, c3) = addS bn bd cn cd := ⟨_, _, _, rfl⟩
      rw [← hu] at CU
      obtain ⟨ic1, ic2, ec3, fc⟩ := add_facts bn bd cn cd hb.out hc.out c1 c2 c3 hu
      have HU := Lib.hid hu
      have EC3 := Lib.hid ec3
      clear hu ec3 fc
      unfold RatE at CU
      simp only [] at CU
      obtain ⟨k1, k2, k3, k4, k5, k6, k7, k8⟩ := hS.cells
      go_wp2_with fail
      (with_reducible refine (CU.out _).mono ?_)
      clear k1 k2 k3 k4 k5 k6 k7 k8 CU
      rintro e v3 ⟨rfl, hbx⟩
      replace hS := (hS.step hbx).al (Obj.cells #[.int .i64 c1, .int .i64 c2] 25)
      replace x1 := (x1.below hbx).alloc (Obj.cells #[.int .i64 c1, .int .i64 c2] 25)
      replace y2 := (y2.below hbx).alloc (Obj.cells #[.int .i64 c1, .int .i64 c2] 25)
      have y3 := Box.made v3 25 [.int .i64 c1, .int .i64 c2]
      clear hbx
      -- y = a + u
      have CY := Lib.hid (fun wx => add_ratio an ad c1 c2 wx ian iad ic1 ic2)
      obtain ⟨d1, d2, d3, hy⟩ : ∃ d1 d2 d3, (d1, d2, d3) = addS an ad c1 c2 := ⟨_, _, _, rfl⟩
      rw [← hy] at CY
      have HY : Hid (c3 = 0 → d1 = a1 ∧ d2 = a2 ∧ d3 = a3) := Lib.hid (fun h => by
        subst h
        have h1 := add_assoc_R an ad bn bd cn cd s1 s2 c1 c2 ha.out hb.out hc.out HS3.out HU.out
        rw [← hy, ← HX.out] at h1
        simpa using h1)
      clear hy
      unfold RatE at CY
      simp only [] at CY
      have l1 := y3.cell 0 _ rfl
      have l2 := y3.cell 1 _ rfl
      obtain ⟨k1, k2, k3, k4, k5, k6, k7, k8⟩ := hS.cells
      go_wp2_with fail
      (with_reducible refine (CY.out _).mono ?_)
      clear k1 k2 k3 k4 k5 k6 k7 k8 l1 l2 CY y3
      rintro e v4 ⟨rfl, hbx⟩
      replace hS := (hS.step hbx).al (Obj.cells #[.int .i64 d1, .int .i64 d2] 25)
      replace x1 := (x1.below hbx).alloc (Obj.cells #[.int .i64 d1, .int .i64 d2] 25)
      replace y2 := (y2.below hbx).alloc (Obj.cells #[.int .i64 d1, .int .i64 d2] 25)
      have y4 := Box.made v4 25 [.int .i64 d1, .int .i64 d2]
      clear hbx
      go_upto_region 18 with fail
      go_cut [138] (fun s138 wx => s138 = .bool false ∧ FpS w an ad bn bd cn cd bp p1 p2 wx ∧ Box wx bs 25 [.int .i64 s1, .int .i64 s2])
      case first =>
        rcases EC3.out with h | h
        · subst h
          obtain ⟨e1, e2, e3⟩ := HY.out rfl
          subst e1 e2 e3
          have CSM := Lib.hid (fun wx => same_refl d1 d2 d3 wx)
          have l1 := y2.cell 0 _ rfl
          have l2 := y2.cell 1 _ rfl
          have l3 := y4.cell 0 _ rfl
          have l4 := y4.cell 1 _ rfl
          clear HY EC3
          go_wp2_with fail
          (with_reducible refine (CSM.out _).mono ?_)
          clear l1 l2 l3 l4
          rintro e v5 ⟨rfl, hbx⟩
          go_wp2_with fail
          go_meet
          exact ⟨rfl, hS.step hbx, x1.below hbx⟩
        · subst h
          clear HY EC3
          go_wp2_with fail
          go_meet
          exact ⟨rfl, hS, x1⟩
      case rest =>
        clear hS x1 y2 y4 HY
        obtain ⟨rfl, hS, x1⟩ := hcut
        -- m = s c
        have CM := Lib.hid (fun wx => mul_ratio s1 s2 cn cd wx is1 is2 icn icd)
        obtain ⟨g1, g2, g3, hm⟩ : ∃ g1 g2 g3, (g1, g2, g3) = mulS s1 s2 cn cd := ⟨_, _, _, rfl⟩
        rw [← hm] at CM
        have HM := Lib.hid hm
        clear hm
        unfold RatE at CM
        simp only [] at CM
        have l1 := x1.cell 0 _ rfl
        have l2 := x1.cell 1 _ rfl
        obtain ⟨k1, k2, k3, k4, k5, k6, k7, k8⟩ := hS.cells
        go_wp2_with fail
        (with_reducible refine (CM.out _).mono ?_)
        clear k1 k2 k3 k4 k5 k6 k7 k8 l1 l2 CM x1
        rintro e v5 ⟨rfl, hbx⟩
        replace hS := (hS.step hbx).al (Obj.cells #[.int .i64 g1, .int .i64 g2] 25)
        have y5 := Box.made v5 25 [.int .i64 g1, .int .i64 g2]
        clear hbx
        -- v = a c
        have CV := Lib.hid (fun wx => mul_ratio an ad cn cd wx ian iad icn icd)
        obtain ⟨o1, o2, o3, ho⟩ : ∃ o1 o2 o3, (o1, o2, o3) = mulS an ad cn cd := ⟨_, _, _, rfl⟩
        rw [← ho] at CV
        obtain ⟨io1, io2, eo3, _⟩ := mul_facts an ad cn cd ha.out hc.out o1 o2 o3 ho
        have HO := Lib.hid ho
        have EO3 := Lib.hid eo3
        clear ho eo3
        unfold RatE at CV
        simp only [] at CV
        obtain ⟨k1, k2, k3, k4, k5, k6, k7, k8⟩ := hS.cells
        go_wp2_with fail
        (with_reducible refine (CV.out _).mono ?_)
        clear k1 k2 k3 k4 k5 k6 k7 k8 CV
        rintro e v6 ⟨rfl, hbx⟩
        replace hS := (hS.step hbx).al (Obj.cells #[.int .i64 o1, .int .i64 o2] 25)
        replace y5 := (y5.below hbx).alloc (Obj.cells #[.int .i64 o1, .int .i64 o2] 25)
        have y6 := Box.made v6 25 [.int .i64 o1, .int .i64 o2]
        clear hbx
        -- w = b c
        have CW := Lib.hid (fun wx => mul_ratio bn bd cn cd wx ibn ibd icn icd)
        obtain ⟨r1, r2, r3, hr⟩ : ∃ r1 r2 r3, (r1, r2, r3) = mulS bn bd cn cd := ⟨_, _, _, rfl⟩
        rw [← hr] at CW
        obtain ⟨ir1, ir2, er3, _⟩ := mul_facts bn bd cn cd hb.out hc.out r1 r2 r3 hr
        have HR := Lib.hid hr
        have ER3 := Lib.hid er3
        clear hr er3
        unfold RatE at CW
        simp only [] at CW
        obtain ⟨k1, k2, k3, k4, k5, k6, k7, k8⟩ := hS.cells
        go_wp2_with fail
        (with_reducible refine (CW.out _).mono ?_)
        clear k1 k2 k3 k4 k5 k6 k7 k8 CW
        rintro e v7 ⟨rfl, hbx⟩
        replace hS := (hS.step hbx).al (Obj.cells #[.int .i64 r1, .int .i64 r2] 25)
        replace y5 := (y5.below hbx).alloc (Obj.cells #[.int .i64 r1, .int .i64 r2] 25)
        replace y6 := (y6.below hbx).alloc (Obj.cells #[.int .i64 r1, .int .i64 r2] 25)
        have y7 := Box.made v7 25 [.int .i64 r1, .int .i64 r2]
        clear hbx
        rcases EO3.out with h | h
        · rcases ER3.out with h2 | h2
          · subst h h2
            have hD := distr_R an ad bn bd cn cd s1 s2 o1 o2 r1 r2 ha.out hb.out hc.out HS3.out HO.out HR.out
            have CZ := Lib.hid (fun wx => add_ratio o1 o2 r1 r2 wx io1 io2 ir1 ir2)
            rw [hD, ← HM.out] at CZ
            clear hD
            unfold RatE at CZ
            simp only [] at CZ
            have CSM := Lib.hid (fun wx => same_refl g1 g2 g3 wx)
            have l1 := y6.cell 0 _ rfl
            have l2 := y6.cell 1 _ rfl
            have l3 := y7.cell 0 _ rfl
            have l4 := y7.cell 1 _ rfl
            clear EO3 ER3
            go_wp2_with fail
            (with_reducible refine (CZ.out _).mono ?_)
            clear l1 l2 l3 l4 CZ y6 y7
            rintro e v8 ⟨rfl, hbx⟩
            replace hS := (hS.step hbx).al (Obj.cells #[.int .i64 g1, .int .i64 g2] 25)
            replace y5 := (y5.below hbx).alloc (Obj.cells #[.int .i64 g1, .int .i64 g2] 25)
            have y8 := Box.made v8 25 [.int .i64 g1, .int .i64 g2]
            clear hbx
            have l1 := y5.cell 0 _ rfl
            have l2 := y5.cell 1 _ rfl
            have l3 := y8.cell 0 _ rfl
            have l4 := y8.cell 1 _ rfl
            go_wp2_with fail
            (with_reducible refine (CSM.out _).mono ?_)
            clear l1 l2 l3 l4
            rintro e v9 ⟨rfl, hbx⟩
            go_wp2_with fail
            go_meet
            exact hS.step hbx
          · subst h h2
            clear EO3 ER3
            go_wp2_with fail
            go_meet
            exact hS
        · subst h
          rcases ER3.out with h2 | h2
          all_goals (subst h2; clear EO3 ER3; go_wp2_with fail; go_meet; exact hS)
    · subst h
      clear ES3 FS
      go_wp2_with fail
      go_meet
      exact hS
  case rest =>
    clear hS x1
    have hS := hcut
    clear hcut
    rcases EP3.out with h | h
    · subst h
      by_cases hz : bn = 0
      · have hz2 : (bn != 0) = false := by simpa using hz
        obtain ⟨k1, k2, k3, k4, k5, k6, k7, k8⟩ := hS.cells
        clear EP3 FP
        go_wp2
        go_ret
        exact ⟨rfl, hS.1.1⟩
      · have hz2 : (bn != 0) = true := by simpa using hz
        obtain ⟨hvp, _⟩ := FP.out rfl
        have HVP := Lib.hid hvp
        clear hvp EP3
        have CD := Lib.hid (fun wx => div_ratio p1 p2 bn bd wx ip1 ip2 ibn ibd)
        rw [mul_div_back an ad bn bd p1 p2 ha.out hb.out hz HP3.out] at CD
        unfold RatE at CD
        simp only [] at CD
        clear hz
        obtain ⟨k1, k2, k3, k4, k5, k6, k7, k8⟩ := hS.cells
        go_wp2_with fail
        (with_reducible refine (CD.out _).mono ?_)
        clear k1 k2 k3 k4 k5 k6 k7 k8 CD
        rintro e v1 ⟨rfl, hbx⟩
        replace hS := (hS.step hbx).al (Obj.cells #[.int .i64 an, .int .i64 ad] 25)
        have y1 := Box.made v1 25 [.int .i64 an, .int .i64 ad]
        clear hbx
        have m1 := y1.cell 0 _ rfl
        have m2 := y1.cell 1 _ rfl
        -- x = p c
        have CX := Lib.hid (fun wx => mul_ratio p1 p2 cn cd wx ip1 ip2 icn icd)
        obtain ⟨a1, a2, a3, hx⟩ : ∃ a1 a2 a3, (a1, a2, a3) = mulS p1 p2 cn cd := ⟨_, _, _, rfl⟩
        rw [← hx] at CX
        have HX := Lib.hid hx
        clear hx
        unfold RatE at CX
        simp only [] at CX
        obtain ⟨k1, k2, k3, k4, k5, k6, k7, k8⟩ := hS.cells
        go_wp2_with fail
        (with_reducible refine (CX.out _).mono ?_)
        clear k1 k2 k3 k4 k5 k6 k7 k8 m1 m2 CX y1
        rintro e v2 ⟨rfl, hbx⟩
        replace hS := (hS.step hbx).al (Obj.cells #[.int .i64 a1, .int .i64 a2] 25)
        have y2 := Box.made v2 25 [.int .i64 a1, .int .i64 a2]
        clear hbx
        -- u = b c
        have CU := Lib.hid (fun wx => mul_ratio bn bd cn cd wx ibn ibd icn icd)
        obtain ⟨c1, c2, c3, hu⟩ : ∃ c1 c2 c3, (c1, c2, c3) = mulS bn bd cn cd := ⟨_, _, _, rfl⟩
        rw [← hu] at CU
        obtain ⟨ic1, ic2, ec3, fc⟩ := mul_facts bn bd cn cd hb.out hc.out c1 c2 c3 hu
        have HU := Lib.hid hu
        have EC3 := Lib.hid ec3
        clear hu ec3 fc
        unfold RatE at CU
        simp only [] at CU
        obtain ⟨k1, k2, k3, k4, k5, k6, k7, k8⟩ := hS.cells
        go_wp2_with fail
        (with_reducible refine (CU.out _).mono ?_)
        clear k1 k2 k3 k4 k5 k6 k7 k8 CU
        rintro e v3 ⟨rfl, hbx⟩
        replace hS := (hS.step hbx).al (Obj.cells #[.int .i64 c1, .int .i64 c2] 25)
        replace y2 := (y2.below hbx).alloc (Obj.cells #[.int .i64 c1, .int .i64 c2] 25)
        have y3 := Box.made v3 25 [.int .i64 c1, .int .i64 c2]
        clear hbx
        -- y = a u
        have CY := Lib.hid (fun wx => mul_ratio an ad c1 c2 wx ian iad ic1 ic2)
        obtain ⟨d1, d2, d3, hy⟩ : ∃ d1 d2 d3, (d1, d2, d3) = mulS an ad c1 c2 := ⟨_, _, _, rfl⟩
        rw [← hy] at CY
        have HY : Hid (c3 = 0 → d1 = a1 ∧ d2 = a2 ∧ d3 = a3) := Lib.hid (fun h => by
          subst h
          have h1 := mul_assoc_R an ad bn bd cn cd p1 p2 c1 c2 ha.out hb.out hc.out HP3.out HU.out
          rw [← hy, ← HX.out] at h1
          simpa using h1)
        clear hy
        unfold RatE at CY
        simp only [] at CY
        have l1 := y3.cell 0 _ rfl
        have l2 := y3.cell 1 _ rfl
        obtain ⟨k1, k2, k3, k4, k5, k6, k7, k8⟩ := hS.cells
        go_wp2_with fail
        (with_reducible refine (CY.out _).mono ?_)
        clear k1 k2 k3 k4 k5 k6 k7 k8 l1 l2 CY y3
        rintro e v4 ⟨rfl, hbx⟩
        replace hS := (hS.step hbx).al (Obj.cells #[.int .i64 d1, .int .i64 d2] 25)
        replace y2 := (y2.below hbx).alloc (Obj.cells #[.int .i64 d1, .int .i64 d2] 25)
        have y4 := Box.made v4 25 [.int .i64 d1, .int .i64 d2]
        clear hbx
        rcases EC3.out with h | h
        · subst h
          obtain ⟨e1, e2, e3⟩ := HY.out rfl
          subst e1 e2 e3
          have CSM := Lib.hid (fun wx => same_refl d1 d2 d3 wx)
          have l1 := y2.cell 0 _ rfl
          have l2 := y2.cell 1 _ rfl
          have l3 := y4.cell 0 _ rfl
          have l4 := y4.cell 1 _ rfl
          clear HY EC3
          go_wp2_with fail
          (with_reducible refine (CSM.out _).mono ?_)
          clear l1 l2 l3 l4
          rintro e v5 ⟨rfl, hbx⟩
          go_wp2
          go_ret
          exact ⟨rfl, (hS.step hbx).1.1⟩
        · subst h
          clear HY EC3
          go_wp2
          go_ret
          exact ⟨rfl, hS.1.1⟩
    · subst h
      clear EP3 FP
      go_wp2
      go_ret
      exact ⟨rfl, hS.1.1⟩

theorem field_any (an ad bn bd cn cd : Int) (w : World) (ian : I64 an) (iad : I64 ad) (ibn : I64 bn) (ibd : I64 bd) (icn : I64 cn) (icd : I64 cd) :
    Calls Try.prog 5 #[.agg #[.int .i64 an, .int .i64 ad], .agg #[.int .i64 bn, .int .i64 bd], .agg #[.int .i64 cn, .int .i64 cd]] w fun e w' => e = .returned (.bool true) ∧ Below w.heap.size w w' := by
  rcases Bool.eq_false_or_eq_true (validB an ad) with ha | ha
  · rcases Bool.eq_false_or_eq_true (validB bn bd) with hb | hb
    · rcases Bool.eq_false_or_eq_true (validB cn cd) with hc | hc
      · exact field_ok an ad bn bd cn cd w ian iad ibn ibd icn icd ha hb hc
      · exact field_e2 an ad bn bd cn cd w ian iad ibn ibd icn icd ha hb hc
    · exact field_e1 an ad bn bd cn cd w ian iad ibn ibd icn icd ha hb
  · exact field_e0 an ad bn bd cn cd w ian iad ibn ibd icn icd ha

end Go.Proofs.Ytpjjbdpkhmeldaa
