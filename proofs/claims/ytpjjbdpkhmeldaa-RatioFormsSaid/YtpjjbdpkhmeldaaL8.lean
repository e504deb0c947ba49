/- the law RatioForms: the walk -/
import Derived.Test.YtpjjbdpkhmeldaaL7
import Derived.Test.YtpjjbdpkhmeldaaL4
namespace Go.Proofs.Ytpjjbdpkhmeldaa
open Go.RowKit

theorem ofS_facts (n d : Int) (_hd : I64 d) (p q e : Int) (h : (p, q, e) = ofS n d) : I64 p ∧ I64 q ∧ (e = 0 ∨ e = 1 ∨ e = 2) ∧ (e = 0 → validB p q = true) := by
  unfold ofS at h
  by_cases h0 : d = 0
  · rw [if_pos h0] at h
    simp only [Prod.mk.injEq] at h
    obtain ⟨rfl, rfl, rfl⟩ := h
    exact ⟨⟨by omega, by omega⟩, ⟨by omega, by omega⟩, by omega, fun h => by omega⟩
  · rw [if_neg h0, ratioS_R] at h
    have hp : (0 : Int) < (d.natAbs : Int) := by omega
    obtain ⟨⟨hp1, hq1⟩, hs⟩ := R_i64 _ _ p q e hp h
    refine ⟨hp1, hq1, ?_, fun he => (hs he).1⟩
    rcases R_err _ _ p q e hp h with h | h <;> omega

/-- an array's box, and two ratios' -/
def FoS (w : World) (n0 n1 an ad bn bd : Int) (w' : World) : Prop :=
  Below w.heap.size w w' ∧ Box w' w.heap.size 38 [.int .i64 n0, .int .i64 n1] ∧ Box w' (w.heap.size + 1) 25 [.int .i64 an, .int .i64 ad] ∧ Box w' (w.heap.size + 2) 25 [.int .i64 bn, .int .i64 bd]
section
variable {w : World} {n0 n1 an ad bn bd : Int}
theorem FoS.step {w1 w2 : World} (hb : Below w1.heap.size w1 w2) (h : FoS w n0 n1 an ad bn bd w1) : FoS w n0 n1 an ad bn bd w2 := by
  obtain ⟨h1, h2, h3, h4⟩ := h
  exact ⟨h1.trans (hb.mono h1.size), h2.below hb, h3.below hb, h4.below hb⟩
theorem FoS.drew {w1 : World} (h : FoS w n0 n1 an ad bn bd w1) : FoS w n0 n1 an ad bn bd w1.drew := ⟨h.1.drew, h.2.1, h.2.2.1, h.2.2.2⟩
theorem FoS.al {w1 : World} (h : FoS w n0 n1 an ad bn bd w1) (o : Obj) : FoS w n0 n1 an ad bn bd (w1.alloc o) := h.step ((Below.refl _ _).alloc (Nat.le_refl _) _)
theorem FoS.cells {w' : World} (h : FoS w n0 n1 an ad bn bd w') :
    w'.cell? ⟨w.heap.size, 0, none⟩ = some (.int .i64 n0) ∧ w'.cell? ⟨w.heap.size, 1, none⟩ = some (.int .i64 n1) ∧ w'.cell? ⟨w.heap.size + 1, 0, none⟩ = some (.int .i64 an) ∧ w'.cell? ⟨w.heap.size + 1, 1, none⟩ = some (.int .i64 ad) ∧
    w'.cell? ⟨w.heap.size + 1 + 1, 0, none⟩ = some (.int .i64 bn) ∧ w'.cell? ⟨w.heap.size + 1 + 1, 1, none⟩ = some (.int .i64 bd) :=
  ⟨h.2.1.cell 0 _ rfl, h.2.1.cell 1 _ rfl, h.2.2.1.cell 0 _ rfl, h.2.2.1.cell 1 _ rfl, h.2.2.2.cell 0 _ rfl, h.2.2.2.cell 1 _ rfl⟩
theorem FoS.all {w' : World} (h : FoS w n0 n1 an ad bn bd w') : FoS w n0 n1 an ad bn bd w' ∧
    w'.cell? ⟨w.heap.size + 1, 0, none⟩ = some (.int .i64 an) ∧ w'.cell? ⟨w.heap.size + 1, 1, none⟩ = some (.int .i64 ad) ∧
    w'.cell? ⟨w.heap.size + 1 + 1, 0, none⟩ = some (.int .i64 bn) ∧ w'.cell? ⟨w.heap.size + 1 + 1, 1, none⟩ = some (.int .i64 bd) := ⟨h, h.cells.2.2⟩
theorem FoS.start (w : World) (n0 n1 an ad bn bd : Int) : FoS w n0 n1 an ad bn bd (((w.alloc (Obj.cells #[.int .i64 n0, .int .i64 n1] 38)).alloc (Obj.cells #[.int .i64 an, .int .i64 ad] 25)).alloc (Obj.cells #[.int .i64 bn, .int .i64 bd] 25)) := by
  have e1 := Box.made w 38 [.int .i64 n0, .int .i64 n1]
  have e2 := Box.made (w.alloc (Obj.cells #[.int .i64 n0, .int .i64 n1] 38)) 25 [.int .i64 an, .int .i64 ad]
  have e3 := Box.made ((w.alloc (Obj.cells #[.int .i64 n0, .int .i64 n1] 38)).alloc (Obj.cells #[.int .i64 an, .int .i64 ad] 25)) 25 [.int .i64 bn, .int .i64 bd]
  rw [alloc_size] at e2
  rw [alloc_size, alloc_size] at e3
  exact ⟨(((Below.refl _ _).alloc (Nat.le_refl _) _).alloc (by simp) _).alloc (by simp; omega) _, (e1.alloc _).alloc _, e2.alloc _, e3⟩
end

set_option maxRecDepth 100000 in
set_option maxHeartbeats 8000000 in
theorem forms_any (n0 n1 an ad bn bd : Int) (w : World) (hn0 : I64 n0) (hn1 : I64 n1) (han : I64 an) (had : I64 ad) (hbn : I64 bn) (hbd : I64 bd) :
    Calls Try.prog 7 #[.agg #[.int .i64 n0, .int .i64 n1], .agg #[.int .i64 an, .int .i64 ad], .agg #[.int .i64 bn, .int .i64 bd]] w fun e w' => e = .returned (.bool true) ∧ Below w.heap.size w w' := by
  have hS := FoS.start w n0 n1 an ad bn bd
  have CA := Lib.hid (fun wx => awake_any wx)
  have C1 := Lib.hid (fun wx => Of_any n0 n1 wx hn0 hn1)
  have C2 := Lib.hid (fun wx => rof_any n0 n1 wx hn0 hn1)
  have C3 := Lib.hid (fun wx => Int_any n0 wx hn0)
  have C4 := Lib.hid (fun wx => rof_any n0 1 wx hn0 ⟨by omega, by omega⟩)
  obtain ⟨x1, x2, x3, hx⟩ : ∃ x1 x2 x3, (x1, x2, x3) = ofS n0 n1 := ⟨_, _, _, rfl⟩
  obtain ⟨u1, u2, u3, hu⟩ : ∃ u1 u2 u3, (u1, u2, u3) = ofS n0 1 := ⟨_, _, _, rfl⟩
  rw [← hx] at C1 C2
  rw [← hu] at C3 C4
  obtain ⟨ix1, ix2, ex3, fx⟩ := ofS_facts n0 n1 hn1 x1 x2 x3 hx
  have EX3 := Lib.hid ex3; have FX := Lib.hid fx
  clear hx hu ex3 fx
  unfold RatE at C1 C2 C3 C4
  simp only [] at C1 C2 C3 C4
  go_enter Try.func7, Try.ntmps7
  go_wp2_with fail
  (with_reducible refine (CA.out _).mono ?_)
  rintro e w0 ⟨rfl, hbx⟩
  replace hS := hS.step hbx
  clear hbx CA
  obtain ⟨k1, k2, k3, k4, k5, k6⟩ := hS.cells
  go_wp2_with fail
  (with_reducible refine (C1.out _).mono ?_)
  clear k1 k2 k3 k4 k5 k6 C1
  rintro e w1 ⟨rfl, hbx⟩
  replace hS := (hS.step hbx).al (Obj.cells #[.int .i64 x1, .int .i64 x2] 25)
  have b1 := Box.made w1 25 [.int .i64 x1, .int .i64 x2]
  clear hbx
  obtain ⟨k1, k2, k3, k4, k5, k6⟩ := hS.cells
  go_wp2_with fail
  (with_reducible refine (C2.out _).mono ?_)
  clear k1 k2 k3 k4 k5 k6 C2
  rintro e w2 ⟨rfl, hbx⟩
  replace hS := (hS.step hbx).al (Obj.cells #[.int .i64 x1, .int .i64 x2] 25)
  replace b1 := (b1.below hbx).alloc (Obj.cells #[.int .i64 x1, .int .i64 x2] 25)
  have b2 := Box.made w2 25 [.int .i64 x1, .int .i64 x2]
  clear hbx
  obtain ⟨k1, k2, k3, k4, k5, k6⟩ := hS.cells
  go_wp2_with fail
  (with_reducible refine (C3.out _).mono ?_)
  clear k1 k2 k3 k4 k5 k6 C3
  rintro e w3 ⟨rfl, hbx⟩
  replace hS := (hS.step hbx).al (Obj.cells #[.int .i64 u1, .int .i64 u2] 25)
  replace b1 := (b1.below hbx).alloc (Obj.cells #[.int .i64 u1, .int .i64 u2] 25)
  replace b2 := (b2.below hbx).alloc (Obj.cells #[.int .i64 u1, .int .i64 u2] 25)
  have b3 := Box.made w3 25 [.int .i64 u1, .int .i64 u2]
  clear hbx
  obtain ⟨k1, k2, k3, k4, k5, k6⟩ := hS.cells
  go_wp2_with fail
  (with_reducible refine (C4.out _).mono ?_)
  clear k1 k2 k3 k4 k5 k6 C4
  rintro e w4 ⟨rfl, hbx⟩
  replace hS := (hS.step hbx).al (Obj.cells #[.int .i64 u1, .int .i64 u2] 25)
  replace b1 := (b1.below hbx).alloc (Obj.cells #[.int .i64 u1, .int .i64 u2] 25)
  replace b2 := (b2.below hbx).alloc (Obj.cells #[.int .i64 u1, .int .i64 u2] 25)
  replace b3 := (b3.below hbx).alloc (Obj.cells #[.int .i64 u1, .int .i64 u2] 25)
  have b4 := Box.made w4 25 [.int .i64 u1, .int .i64 u2]
  clear hbx
  have l1 := b1.cell 0 _ rfl
  have m1 := b1.cell 1 _ rfl
  have l2 := b2.cell 0 _ rfl
  have m2 := b2.cell 1 _ rfl
  have l3 := b3.cell 0 _ rfl
  have m3 := b3.cell 1 _ rfl
  have l4 := b4.cell 0 _ rfl
  have m4 := b4.cell 1 _ rfl
  go_upto_region 7 with fail
  go_cut [71] (fun s71 wx => s71 = .bool false ∧ FoS w n0 n1 an ad bn bd wx)
  case first =>
    by_cases he : x3 = 0
    · have CV := Lib.hid (fun wx => valid_any x1 x2 true (FX.out he) wx ix1 ix2)
      subst he
      clear EX3 FX
      go_wp2_with fail
      (with_reducible refine (CV.out _).mono ?_)
      rintro e v1 ⟨rfl, hbx⟩
      go_wp2_with fail
      go_meet
      exact ⟨rfl, hS.step hbx⟩
    · have he2 : (x3 == 0) = false := by simpa using he
      clear EX3 FX he
      go_wp2_with fail
      go_meet
      exact ⟨rfl, hS⟩
  case rest =>
    clear hS b1 b2 b3 b4 l1 l2 l3 l4 m1 m2 m3 m4 EX3 FX
    obtain ⟨rfl, hS⟩ := hcut
    obtain ⟨vb, hvb⟩ : ∃ b, validB an ad = b := ⟨_, rfl⟩
    have D1 := Lib.hid (fun wx => valid_any an ad vb hvb wx han had)
    have D2 := Lib.hid (fun wx => rvalid_any an ad vb hvb wx han had)
    have D3 := Lib.hid (fun wx => neg_any an ad wx han had)
    have D4 := Lib.hid (fun wx => rneg_any an ad wx han had)
    have D5 := Lib.hid (fun wx => cmp_ratio an ad bn bd wx han had hbn hbd)
    have D6 := Lib.hid (fun wx => rcmp_ratio an ad bn bd wx han had hbn hbd)
    have D7 := Lib.hid (fun wx => Sign_any an ad wx han had)
    have D8 := Lib.hid (fun wx => rsign_any an ad wx han had)
    have D9 := Lib.hid (fun wx => Floor_any an ad wx han had)
    have D10 := Lib.hid (fun wx => rfloor_any an ad wx han had)
    have D11 := Lib.hid (fun wx => Ceil_any an ad wx han had)
    have D12 := Lib.hid (fun wx => rceil_any an ad wx han had)
    obtain ⟨⟨ng, nh⟩, hng⟩ : ∃ x, x = negS an ad := ⟨_, rfl⟩
    obtain ⟨cc, hcc⟩ : ∃ x, x = cmpS an ad bn bd := ⟨_, rfl⟩
    obtain ⟨sg, hsg⟩ : ∃ x, x = signS an ad := ⟨_, rfl⟩
    obtain ⟨fl, hfl⟩ : ∃ x, x = floorS an ad := ⟨_, rfl⟩
    obtain ⟨cl, hcl⟩ : ∃ x, x = ceilS an ad := ⟨_, rfl⟩
    rw [← hng] at D3 D4
    rw [← hcc] at D5 D6
    rw [← hsg] at D7 D8
    rw [← hfl] at D9 D10
    rw [← hcl] at D11 D12
    simp only [] at D3 D4
    clear hvb hng hcc hsg hfl hcl
    obtain ⟨k1, k2, k3, k4, k5, k6⟩ := hS.cells
    have hS0 := hS.drew
    clear k1 k2
    go_wp2_with fail
    go_region_held3 (fun w' => FoS w n0 n1 an ad bn bd w' ∧ w'.cell? ⟨w.heap.size + 1, 0, none⟩ = some (.int .i64 an) ∧ w'.cell? ⟨w.heap.size + 1, 1, none⟩ = some (.int .i64 ad) ∧ w'.cell? ⟨w.heap.size + 1 + 1, 0, none⟩ = some (.int .i64 bn) ∧ w'.cell? ⟨w.heap.size + 1 + 1, 1, none⟩ = some (.int .i64 bd)) (first | exact FoS.all (by assumption))
      (first
        | (go_at_call 28; (with_reducible refine (D1.out _).mono ?_); rintro e v1 ⟨rfl, hb1⟩; have hS1 := hS0.step hb1)
        | (go_at_call 20; (with_reducible refine (D2.out _).mono ?_); rintro e v2 ⟨rfl, hb2⟩; have hS2 := hS1.step hb2)
        | (go_at_call 29; (with_reducible refine (D3.out _).mono ?_); rintro e v3 ⟨rfl, hb3⟩; have hS3 := hS2.step hb3)
        | (go_at_call 30; (with_reducible refine (D4.out _).mono ?_); rintro e v4 ⟨rfl, hb4⟩; have hS4 := hS3.step hb4)
        | (go_at_call 25; (with_reducible refine (D5.out _).mono ?_); rintro e v5 ⟨rfl, hb5⟩; have hS5 := hS4.step hb5)
        | (go_at_call 31; (with_reducible refine (D6.out _).mono ?_); rintro e v6 ⟨rfl, hb6⟩; have hS6 := hS5.step hb6)
        | (go_at_call 32; (with_reducible refine (D7.out _).mono ?_); rintro e v7 ⟨rfl, hb7⟩; have hS7 := hS6.step hb7)
        | (go_at_call 33; (with_reducible refine (D8.out _).mono ?_); rintro e v8 ⟨rfl, hb8⟩; have hS8 := hS7.step hb8)
        | (go_at_call 22; (with_reducible refine (D9.out _).mono ?_); rintro e v9 ⟨rfl, hb9⟩; have hS9 := hS8.step hb9)
        | (go_at_call 34; (with_reducible refine (D10.out _).mono ?_); rintro e v10 ⟨rfl, hb10⟩; have hS10 := hS9.step hb10)
        | (go_at_call 23; (with_reducible refine (D11.out _).mono ?_); rintro e v11 ⟨rfl, hb11⟩; have hS11 := hS10.step hb11)
        | (go_at_call 35; (with_reducible refine (D12.out _).mono ?_); rintro e v12 ⟨rfl, hb12⟩; have hS12 := hS11.step hb12))
    go_wp2
    go_ret
    exact ⟨rfl, hS12.1⟩

end Go.Proofs.Ytpjjbdpkhmeldaa
