/- TriangleLists returns true for every shape: no condition. (K17 Q1) -/
import Derived.Test.YtdaeofhdgabhjaaGreatC6
namespace Go.Proofs.YtdaeofhdgabhjaaGreat
open Go.RowKit
theorem tOf_len (s : Geo.Shape) : (tOf s).length ≤ 1000000 := by
  unfold tOf; split
  · unfold trisP
    have h1 := iAcc_length s (vOf s) (tT s) (vOf s).length
    have hv := vOf_le s
    have h4 : (vOf s).length * (vOf s).length ≤ 80 * 80 := Nat.mul_le_mul hv hv
    have h5 : (vOf s).length * ((vOf s).length * (vOf s).length) ≤ 80 * (80 * 80) := Nat.mul_le_mul hv h4
    have h2 := (Geo.sortR_perm (iAcc s (vOf s) (tT s) (vOf s).length)).length_eq
    first | omega | (show (Geo.sortR (iAcc s (vOf s) (tT s) (vOf s).length)).length ≤ 1000000; omega)
  · exact Nat.zero_le _
theorem tOf_low (s : Geo.Shape) : ∀ r ∈ tOf s, r.length ≤ 100000 := fun r hr => by
  unfold tOf at hr; split at hr
  · have := iAcc_small s (vOf s) (tT s) (vOf s).length r ((Geo.sortR_perm _).subset hr)
    omega
  · cases hr
noncomputable def c3 : Con := con (a1 aSh) (fun s => [BigOk s]) (fun _ => .bool true)
set_option maxRecDepth 100000 in
theorem k3 : c3.Ok Tryz.prog 3 := con_ok (cx_ok t15o) (raw := noRaw) (fun _ => []
  ) (fun _ => ⟨_, rfl⟩) fun s hp => by_vc (q := ((!true) = true → false = true) ∧
 ((!true) = false → BigOk s ∧ ((!fewW s) = true → true = true) ∧
  ((!fewW s) = false → Fit s ∧ Fit s ∧ Fit s ∧ Fit s ∧ Fit s ∧ Fit s ∧ (eOf s = eOf s → (eOf s = eOf s → (eOf s = eOf s → (vOf s).length ≤ 1000000 ∧ ((vOf s == vOf s) = true → (dOf s).length = (dOf s).length ∧ (dOf s).length ≤ 1000000 ∧ ((dOf s == dOf s) = true → (tOf s).length ≤ 1000000 ∧ (∀ r : Geo.Ring, r ∈ tOf s → r.length ≤ 100000) ∧ (tOf s == tOf s) = true) ∧
       ((dOf s == dOf s) = false → false = true)) ∧
      ((vOf s == vOf s) = false → false = true)) ∧
     (¬ eOf s = eOf s → false = true)) ∧
    (¬ eOf s = eOf s → false = true)) ∧
   (¬ eOf s = eOf s → false = true)))) (by kernel_rfl) (by
  change BigOk s at hp
  have hf : fewW s = true → Fit s := fun h => fewW_fit hp h
  have hf2 : ¬ (!fewW s) = true → Fit s := fun h => fewW_fit hp (by cases e : fewW s with | true => rfl | false => rw [e] at h; exact absurd rfl h)
  have hf3 : (!fewW s) = false → Fit s := fun h => fewW_fit hp (by cases e : fewW s with | true => rfl | false => rw [e] at h; cases h)
  have hv := vOf_le s
  have hd := dOf_len s
  have ht := tOf_len s
  have hr := tOf_low s
  have b1 : (vOf s == vOf s) = true := beq_self_eq_true _
  have b2 : (dOf s == dOf s) = true := beq_self_eq_true _
  have b3 : (tOf s == tOf s) = true := beq_self_eq_true _
  repeat' first | with_reducible apply And.intro | with_reducible intro
  all_goals first | assumption | (with_reducible exact hf ‹_›) | (with_reducible exact hf2 ‹_›) | (with_reducible exact hf3 ‹_›) | (with_reducible exact hr) | (with_reducible exact hr _ ‹_›) | omega | rfl | (with_reducible exact b1) | (with_reducible exact b2) | (with_reducible exact b3) | trivial | exact (nomatch (‹(vOf s == vOf s) = false›).symm.trans b1) | exact (nomatch (‹(dOf s == dOf s) = false›).symm.trans b2) | exact (nomatch (‹(tOf s == tOf s) = false›).symm.trans b3) | (simp [b1, b2, b3]))
noncomputable def t3 : Tab := tabL [(3, c3)] t15
end Go.Proofs.YtdaeofhdgabhjaaGreat
namespace Go.Proofs.YtdaeofhdgabhjaaGreat
open Go.ChangeShapes Go.WideShapes Go.ChangeAt Go.RowKit Go.Joins Go.Deep
theorem law_lists (s : Geo.Shape) (hs : BigOk s) : Sat Tryz.prog false 3 [shapeP s] (.bool true) :=
  sat_of (k3 [aSh.enc s] s rfl ((andL_iff (l := c3.pre s)).1 hs)) (by simp only [avs, av_sh]; rfl) rfl
set_option maxRecDepth 100000 in
theorem lists_lifted (os : Os) (started : os.Started) (H : Type) (enc : TypeId × Value → H) :
    ReturnsInHanded {} Tryz.checked os 3 .any (Rows.triangleListsSpec.pre6 enc Tryz.prog Tryz.f3 Rows.triangleListsRow.domain false) (Rows.triangleListsSpec.post enc Tryz.prog Tryz.f3 false true false false) := by
  refine returnsInHanded_of_change_sized (C := Tryz.checked) Tryz.own started (by kernel_rfl) Tryz.func3
    (ChangeSpec.witness6 (enc := enc) (C := Tryz.checked) false ⟨#[], #[(.agg #[.slice none 0 0, .slice none 0 0])], []⟩ 8 (by kernel_rfl) (by kernel_rfl) (by kernel_rfl) (by kernel_rfl)) ?_
  intro W base args ds gs before hval0 hW hcnd hsz0 _
  have hval : ∀ (j : Nat) t v, Tryz.f3.params[j]? = some t → args[j]? = some v → Value.okWide Tryz.prog W .any base t v := hval0
  have hsz : (DataW.weightsEach Tryz.prog (Tryz.f3.params.toList ++ Rows.triangleListsSpec.plain.varTypes Tryz.prog) (ds ++ gs)).all (· ≤ reachBytes) = true := hsz0
  have hW' := hW
  obtain ⟨p, q, hA0, hV, rfl, hfz, hnd⟩ := hW
  have hA : DataW.TrodAll enc Tryz.prog W 0 (fun _ => true) true Tryz.f3.params.toList args.toList ds p := hA0
  rw [Tryz.params3] at hA hval hsz
  obtain ⟨v0, d0, rfl, rfl, h0⟩ := trodAll_one hA
  obtain ⟨rfl, rfl⟩ := trodVars_none hV
  have hw0 : ∀ n ∈ DataW.weights Tryz.prog 26 d0, n ≤ reachBytes := fun n hn => by
    have := List.all_eq_true.1 hsz n (DataW.weights_mem_each (j := 0) (t := 26) rfl rfl n hn)
    simpa using this
  obtain ⟨s, r0, b0⟩ := open_shape (hval 0 26 v0 rfl rfl) h0 hw0
  clear hA0 hval0
  simp only [List.append_nil] at hW'
  have hcall := (law_lists s b0).2 (cellW W) W [v0] (fun _ _ _ h => h) (by unfold RepL; exact ⟨v0, [], rfl, r0, by unfold RepL; rfl⟩)
  refine hcall.mono fun e W' ⟨v, he, hr, hB⟩ => ?_
  unfold RepV at hr
  subst he hr
  have hlt0 : ∀ x ∈ p, x.block < W.heap.size := fun x hx => by simpa using hW'.lt x hx
  refine ⟨_, rfl, _, _, _, [], p, [], hW', ?_, ?_, rfl, hB.frame _, fun h => by cases h⟩
  · exact trodAll_mk1 (shut_bool Tryz.underlying4 true)
  · exact trodAll_mk1 (Below.trod Tryz.laidOut (by kernel_rfl) (of_decide_eq_true (by kernel_rfl)) h0 hB hlt0)
theorem lists_holds : Rows.TriangleListsSaid :=
  OpenClaim.holds_of_wide 3 Tryz.f3 rfl rfl rfl rfl rfl rfl rfl ⟨rfl, rfl, rfl, rfl, rfl⟩ rfl rfl rfl rfl rfl (by kernel_rfl) Tryz.func3 (by kernel_rfl)
    (of_decide_eq_true (by kernel_rfl)) (by unfold Func.isWrapper; first | (rw [if_pos (by decide +kernel)]; kernel_rfl) | (rw [if_neg (by decide +kernel)]; exact ⟨rfl, rfl⟩))
    (fun os started H enc _ => lists_lifted os started H enc)
end Go.Proofs.YtdaeofhdgabhjaaGreat
