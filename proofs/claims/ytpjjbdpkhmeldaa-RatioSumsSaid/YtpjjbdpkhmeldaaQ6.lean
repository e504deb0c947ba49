/- RatioSums, joined -/
import Derived.Test.YtpjjbdpkhmeldaaQ0
import Derived.Test.YtpjjbdpkhmeldaaL10
import Derived.Deep.Slices
namespace Go.Proofs.Ytpjjbdpkhmeldaa
open Go.ChangeShapes Go.WideShapes Go.ChangeAt Go.RowKit Go.Joins

theorem cells3 : Try.prog.cellsOf 3 = 1 := by kernel_rfl

section
variable {H : Type} {enc : TypeId × Value → H} {w : World} {base : Nat} {spare : Nat → Bool} {held : Bool}
theorem open_ratio_cells {fuel : Nat} {cs : List Value} {x : DataW H × List MemPlace} (h : DataW.trod enc Try.prog w base spare held fuel 25 cs = some x) :
    ∃ n m : Int, cs = [.int .i64 n, .int .i64 m] ∧ I64 n ∧ I64 m := by
  obtain ⟨y0, y1, n, _, hl, h0, h1⟩ := trod_struct2 Try.underlying25 h
  rw [cells25] at hl
  match cs, hl with
  | [c0, c1], _ =>
    obtain ⟨a, ha, _, wa⟩ := DataW.trod_int Try.underlying3 h0
    obtain ⟨b, hb, _, wb⟩ := DataW.trod_int Try.underlying3 h1
    rw [cells3] at ha hb
    simp at ha hb
    subst ha hb
    exact ⟨a, b, rfl, i64_of_wf wa, i64_of_wf wb⟩

theorem open_ratios {a : Option Addr} {L cap : Nat} {d : DataW H} {p : List MemPlace} (h : DataW.Trod enc Try.prog w base spare held 22 (.slice a L cap) d p) :
    L ≤ 9223372036854775807 ∧ ∃ l : List (Int × Int), l.length = L ∧ RatL w a l := by
  obtain ⟨fuel, hf⟩ := h
  rcases Deep.open_slice Try.underlying22 hf with ⟨hcs, _⟩ | ⟨a', len, cap', m, n, D, Pl, hcs, hb, hl, hm, hmm, _, hel⟩
  · simp [Value.cells] at hcs
    obtain ⟨rfl, rfl, rfl⟩ := hcs
    exact ⟨by omega, [], rfl, fun i hi => by simp at hi⟩
  · simp [Value.cells] at hcs
    obtain ⟨rfl, rfl, rfl⟩ := hcs
    have hml : L ≤ m := by rw [hmm]; split <;> omega
    refine ⟨by unfold maxLen at hm; omega, ?_⟩
    have hone : ∀ i, i < L → ∃ q : Int × Int, w.cell? (a'.add (i * 2)) = some (.int .i64 q.1) ∧ w.cell? (a'.add (i * 2 + 1)) = some (.int .i64 q.2) ∧ I64 q.1 ∧ I64 q.2 := by
      intro i hi
      obtain ⟨cs', hc, ht⟩ := hel i (by omega)
      obtain ⟨x, y, rfl, i1, i2⟩ := open_ratio_cells ht
      rw [cells25] at hc
      obtain ⟨_, _, hce⟩ := World.cells?_some hc
      refine ⟨(x, y), ?_, ?_, i1, i2⟩
      · have := hce 0 (by omega)
        rw [Deep.add_add] at this
        simpa using this
      · have := hce 1 (by omega)
        rw [Deep.add_add] at this
        simpa using this
    obtain ⟨f, hf2⟩ := Deep.choose_lt hone
    refine ⟨(List.range L).map f, by simp, ?_⟩
    intro i hi
    have hi' : i < L := by simpa using hi
    obtain ⟨h1, h2, h3, h4⟩ := hf2 i hi'
    obtain ⟨b, off, spot⟩ := a'
    have hspot : spot = none := by
      have := World.cell?_spot (hf2 0 (by omega)).1
      simpa [Addr.add] using this
    subst hspot
    rw [add_plain] at h1 h2
    have hlt : b < w.heap.size := by
      unfold World.cell? at h1
      simp only [] at h1
      rcases Nat.lt_or_ge b w.heap.size with h | h
      · exact h
      · rw [Array.getElem?_eq_none h] at h1
        cases h1
    refine ⟨b, off, rfl, hlt, ?_⟩
    simp only [List.getElem_map, List.getElem_range]
    exact ⟨h1, by rw [Nat.add_assoc]; exact h2, h3, h4⟩
end

theorem sums_any (a : Option Addr) (L cap : Nat) (w : World) (hL : L ≤ 9223372036854775807) (h : ∃ l : List (Int × Int), l.length = L ∧ RatL w a l) :
    Calls Try.prog 3 #[.slice a L cap] w fun e w' => e = .returned (.bool true) ∧ Below w.heap.size w w' := by
  by_cases hl : 20 < L
  · exact sums_long a L cap w hl hL
  · obtain ⟨l, rfl, hr⟩ := h
    exact sums_ok a cap l w (by omega) hr

set_option maxRecDepth 100000 in
theorem sums_lifted (os : Os) (started : os.Started) (H : Type) (enc : TypeId × Value → H) :
    ReturnsInHanded {} Try.checked os 3 .any (Rows.ratioSumsSpec.pre6 enc Try.prog Try.f3 Rows.ratioSumsRow.domain false) (Rows.ratioSumsSpec.post enc Try.prog Try.f3 false true false false) := by
  refine returnsInHanded_of_change (C := Try.checked) Try.own started (by kernel_rfl) Try.func3
    (ChangeSpec.witness6 (enc := enc) (C := Try.checked) false ⟨#[], #[.slice none 0 0], []⟩ 8 (by kernel_rfl) (by kernel_rfl) (by kernel_rfl) (by kernel_rfl)) ?_
  intro W base args ds gs before hval0 hW hcnd _
  have hval : ∀ (j : Nat) t v, Try.f3.params[j]? = some t → args[j]? = some v → Value.okWide Try.prog W .any base t v := hval0
  have hW' := hW
  obtain ⟨p, q, hA0, hV, rfl, hfz, hnd⟩ := hW
  have hA : DataW.TrodAll enc Try.prog W 0 (fun _ => true) true Try.f3.params.toList args.toList ds p := hA0
  rw [Try.params3] at hA hval
  obtain ⟨v0, d0, rfl, rfl, h0⟩ := trodAll_one hA
  obtain ⟨rfl, rfl⟩ := trodVars_none hV
  obtain ⟨a0, len, cap, rfl⟩ := okWide_slice Try.underlying22 (hval 0 22 v0 rfl rfl)
  obtain ⟨hL, hl⟩ := open_ratios h0
  clear hA0 hval0
  simp only [List.append_nil] at hW'
  refine (sums_any a0 len cap W hL hl).mono fun e W' ⟨he, hB⟩ => ?_
  subst he
  have hlt0 : ∀ x ∈ p, x.block < W.heap.size := fun x hx => by simpa using hW'.lt x hx
  refine ⟨_, rfl, _, _, _, [], p, [], hW', ?_, ?_, rfl, hB.frame _, fun h => by cases h⟩
  · exact trodAll_mk1 (shut_bool Try.underlying4 true)
  · exact trodAll_mk1 (Below.trod Try.laidOut (by kernel_rfl) (of_decide_eq_true (by kernel_rfl)) h0 hB hlt0)

theorem sums_holds : Rows.RatioSumsSaid :=
  OpenClaim.holds_of_wide 3 Try.f3 rfl rfl rfl rfl rfl rfl rfl ⟨rfl, rfl, rfl, rfl, rfl⟩ rfl rfl rfl rfl rfl (by kernel_rfl) Try.func3 (by kernel_rfl)
    (of_decide_eq_true (by kernel_rfl)) (by unfold Func.isWrapper; first | (rw [if_pos (by decide +kernel)]; kernel_rfl) | (rw [if_neg (by decide +kernel)]; exact ⟨rfl, rfl⟩))
    (fun os started H enc _ => sums_lifted os started H enc)

end Go.Proofs.Ytpjjbdpkhmeldaa
