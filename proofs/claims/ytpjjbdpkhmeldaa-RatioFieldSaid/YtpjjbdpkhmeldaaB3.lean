/- contracts of ratio's Add, Sub, Mul, Div -/
import Derived.Test.YtpjjbdpkhmeldaaB4
namespace Go.Proofs.Ytpjjbdpkhmeldaa
open Go.RowKit

theorem add_ratio (an ad bn bd : Int) (w : World) (han : I64 an) (had : I64 ad) (hbn : I64 bn) (hbd : I64 bd) :
    Calls Try.prog 12 #[.agg #[.int .i64 an, .int .i64 ad], .agg #[.int .i64 bn, .int .i64 bd]] w fun e w' => e = RatE (addS an ad bn bd) ∧ Below w.heap.size w w' := by
  rcases Bool.eq_false_or_eq_true (validB an ad) with hva | hva
  · rcases Bool.eq_false_or_eq_true (validB bn bd) with hvb | hvb
    · obtain ⟨a1, _⟩ := validB_true hva
      obtain ⟨b1, _⟩ := validB_true hvb
      obtain ⟨x, rfl⟩ : ∃ x : Nat, ad = x := ⟨ad.toNat, by omega⟩
      obtain ⟨y, rfl⟩ : ∃ y : Nat, bd = y := ⟨bd.toNat, by omega⟩
      exact addS_ok an x bn y w han had hbn hbd hva hvb
    · have e : addS an ad bn bd = (0, 0, 1) := by unfold addS; rw [hva, hvb]; rfl
      rw [e]; exact addS_eb an ad bn bd w han had hbn hbd hva hvb
  · have e : addS an ad bn bd = (0, 0, 1) := by unfold addS; rw [hva]; rfl
    rw [e]; exact addS_ea an ad bn bd w han had hbn hbd hva

def subS (an ad bn bd : Int) : Int × Int × Int := if validB an ad && validB bn bd then addS an ad (negS bn bd).1 (negS bn bd).2 else (0, 0, 1)

set_option maxHeartbeats 1000000 in
theorem subS_ea (an ad bn bd : Int) (w : World) (han : I64 an) (had : I64 ad) (_hbn : I64 bn) (_hbd : I64 bd) (hva : Hid (validB an ad = false)) :
    Calls Try.prog 14 #[.agg #[.int .i64 an, .int .i64 ad], .agg #[.int .i64 bn, .int .i64 bd]] w fun e w' => e = RatE (0, 0, 1) ∧ Below w.heap.size w w' := by
  have hS := BiS.start w an ad bn bd
  go_enter Try.func14, Try.ntmps14
  go_wp2_with fail
  refine (valid_any an ad false hva.out _ han had).mono ?_
  rintro e wa ⟨rfl, hba⟩
  replace hS := hS.step hba
  clear hba

  obtain ⟨k1, k2, k3, k4, k5, k6, k7, k8⟩ := hS.cells
  have hbl := hS.1
  clear hS
  go_wp2
  refine bodyPost_ret (v := .tuple #[.agg #[.int .i64 0, .int .i64 0], .int .i64 1]) (by simp [results, Try.results14, go_sem, k5, k6]) rfl ⟨rfl, (hbl.setCell (by simp; omega) _).setCell (by simp; omega) _⟩

set_option maxHeartbeats 1000000 in
theorem subS_eb (an ad bn bd : Int) (w : World) (han : I64 an) (had : I64 ad) (hbn : I64 bn) (hbd : I64 bd) (hva : Hid (validB an ad = true)) (hvb : Hid (validB bn bd = false)) :
    Calls Try.prog 14 #[.agg #[.int .i64 an, .int .i64 ad], .agg #[.int .i64 bn, .int .i64 bd]] w fun e w' => e = RatE (0, 0, 1) ∧ Below w.heap.size w w' := by
  have hS := BiS.start w an ad bn bd
  go_enter Try.func14, Try.ntmps14
  go_wp2_with fail
  refine (valid_any an ad true hva.out _ han had).mono ?_
  rintro e wa ⟨rfl, hba⟩
  replace hS := hS.step hba
  clear hba
  obtain ⟨k1, k2, k3, k4, k5, k6, k7, k8⟩ := hS.cells
  go_wp2_with fail
  clear k1 k2 k3 k4 k5 k6 k7 k8
  refine (valid_any bn bd false hvb.out _ hbn hbd).mono ?_
  rintro e wb ⟨rfl, hbb⟩
  replace hS := hS.step hbb
  clear hbb

  obtain ⟨k1, k2, k3, k4, k5, k6, k7, k8⟩ := hS.cells
  have hbl := hS.1
  clear hS
  go_wp2
  refine bodyPost_ret (v := .tuple #[.agg #[.int .i64 0, .int .i64 0], .int .i64 1]) (by simp [results, Try.results14, go_sem, k5, k6]) rfl ⟨rfl, (hbl.setCell (by simp; omega) _).setCell (by simp; omega) _⟩

set_option maxHeartbeats 2000000 in
theorem subS_ok (an : Int) (ad : Nat) (bn : Int) (bd : Nat) (w : World) (han : I64 an) (had : I64 ad) (hbn : I64 bn) (hbd : I64 bd) (hva : Hid (validB an ad = true)) (hvb : Hid (validB bn bd = true)) :
    Calls Try.prog 14 #[.agg #[.int .i64 an, .int .i64 ad], .agg #[.int .i64 bn, .int .i64 bd]] w fun e w' => e = RatE (subS an ad bn bd) ∧ Below w.heap.size w w' := by
  have hS := BiS.start w an ad bn bd
  have e1 : subS an ad bn bd = addS an ad (-bn) bd := by
    unfold subS negS; rw [hva.out, hvb.out]; rfl
  have HE := Lib.hid e1
  obtain ⟨b1, b2, b3, b4, b5⟩ := validB_true hvb.out
  have NEG := Lib.hid (fun wx => neg_any bn bd wx hbn hbd)
  have en : negS bn bd = (-bn, (bd : Int)) := by unfold negS; rw [hvb.out]; rfl
  rw [en] at NEG
  have ADD := Lib.hid (fun wx => add_ratio an ad (-bn) bd wx han had (by obtain ⟨x1, x2⟩ := hbn; exact ⟨by omega, by omega⟩) hbd)
  clear e1 b5 en
  go_enter Try.func14, Try.ntmps14
  go_wp2_with fail
  refine (valid_any an ad true hva.out _ han had).mono ?_
  rintro e wa ⟨rfl, hba⟩
  replace hS := hS.step hba
  clear hba
  obtain ⟨k1, k2, k3, k4, k5, k6, k7, k8⟩ := hS.cells
  go_wp2_with fail
  clear k1 k2 k3 k4 k5 k6 k7 k8
  refine (valid_any bn bd true hvb.out _ hbn hbd).mono ?_
  rintro e wb ⟨rfl, hbb⟩
  replace hS := hS.step hbb
  clear hbb
  obtain ⟨k1, k2, k3, k4, k5, k6, k7, k8⟩ := hS.cells
  have hT := hS.drew.t
  have hS' := hS.drew
  go_wp2
  go_region_held3 (fun w' => BiT w an ad bn bd w' ∧ w'.cell? ⟨w.heap.size, 0, none⟩ = some (.int .i64 an) ∧ w'.cell? ⟨w.heap.size, 1, none⟩ = some (.int .i64 ad) ∧ w'.cell? ⟨w.heap.size + 1, 0, none⟩ = some (.int .i64 bn) ∧ w'.cell? ⟨w.heap.size + 1, 1, none⟩ = some (.int .i64 bd)) (first | exact BiT.all (by assumption) | exact BiT.all (((by assumption : BiT w an ad bn bd _).st _ _ (by omega) _).st _ _ (by omega) _))
    (first
      | (go_at_call 29; (with_reducible refine (NEG.out _).mono ?_); rintro e w1 ⟨rfl, hb1⟩; have hS1 := hS'.step hb1; have hT1 := hS1.t)
      | (go_at_call 12; (with_reducible refine (ADD.out _).mono ?_); rintro e w4 ⟨he, hb4⟩; have hS4 := hS1.step hb4; have hT4 := hS4.t; obtain ⟨x1, x2, x3, hx, he'⟩ := RatE_cases he; subst he'; have hcs := hS4.cells; obtain ⟨m1, m2, m3, m4, m5, m6, m7, m8⟩ := hcs))
  clear k1 k2 k3 k4 k5 k6 k7 k8
  go_wp2
  obtain ⟨m1, m2, m3, m4, m5, m6, m7, m8⟩ := hS4.cells
  refine bodyPost_ret (v := .tuple #[.agg #[.int .i64 x1, .int .i64 x2], .int .i64 x3]) (by simp [results, Try.results14, go_sem, m5, m6]) rfl ⟨?_, (hS4.1.setCell (by simp; omega) _).setCell (by simp; omega) _⟩
  rw [HE.out, ← hx]
  rfl

theorem sub_ratio (an ad bn bd : Int) (w : World) (han : I64 an) (had : I64 ad) (hbn : I64 bn) (hbd : I64 bd) :
    Calls Try.prog 14 #[.agg #[.int .i64 an, .int .i64 ad], .agg #[.int .i64 bn, .int .i64 bd]] w fun e w' => e = RatE (subS an ad bn bd) ∧ Below w.heap.size w w' := by
  rcases Bool.eq_false_or_eq_true (validB an ad) with hva | hva
  · rcases Bool.eq_false_or_eq_true (validB bn bd) with hvb | hvb
    · obtain ⟨a1, _⟩ := validB_true hva
      obtain ⟨b1, _⟩ := validB_true hvb
      obtain ⟨x, rfl⟩ : ∃ x : Nat, ad = x := ⟨ad.toNat, by omega⟩
      obtain ⟨y, rfl⟩ : ∃ y : Nat, bd = y := ⟨bd.toNat, by omega⟩
      exact subS_ok an x bn y w han had hbn hbd hva hvb
    · have e : subS an ad bn bd = (0, 0, 1) := by unfold subS; rw [hva, hvb]; rfl
      rw [e]; exact subS_eb an ad bn bd w han had hbn hbd hva hvb
  · have e : subS an ad bn bd = (0, 0, 1) := by unfold subS; rw [hva]; rfl
    rw [e]; exact subS_ea an ad bn bd w han had hbn hbd hva

end Go.Proofs.Ytpjjbdpkhmeldaa
