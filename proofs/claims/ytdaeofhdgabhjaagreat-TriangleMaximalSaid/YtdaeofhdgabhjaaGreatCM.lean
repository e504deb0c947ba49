/- TriangleMaximal returns true for every shape: no condition. (H5 K20 Q3) -/
import Derived.Test.YtdaeofhdgabhjaaGreatC6
namespace Go.Proofs.YtdaeofhdgabhjaaGreat.Geo
structure Most (s : Shape) (v : List V) (acc : List S) (i k : Nat) : Prop where
  chord : ∀ d ∈ acc, chordR s d = true
  apart : acc.Pairwise fun d e => meetR d e ≠ 2
  most : ∀ a b, a < b → b < v.length → (a < i ∨ (a = i ∧ b < k)) → chordR s ⟨nth v a, nth v b⟩ = true → (⟨nth v a, nth v b⟩ : S) ∈ acc ∨ ∃ d ∈ acc, meetR d ⟨nth v a, nth v b⟩ = 2
theorem step_most {s : Shape} {v : List V} {acc : List S} {i k : Nat} (h : Most s v acc i k) : Most s v (stepR s v acc i k) i (k + 1) := by
  have up : ∀ {acc' : List S}, (∀ d ∈ acc, d ∈ acc') → ((chordR s ⟨nth v i, nth v k⟩ = true) → (⟨nth v i, nth v k⟩ : S) ∈ acc' ∨ ∃ d ∈ acc', meetR d ⟨nth v i, nth v k⟩ = 2) →
      ∀ a b, a < b → b < v.length → (a < i ∨ (a = i ∧ b < k + 1)) → chordR s ⟨nth v a, nth v b⟩ = true → (⟨nth v a, nth v b⟩ : S) ∈ acc' ∨ ∃ d ∈ acc', meetR d ⟨nth v a, nth v b⟩ = 2 := by
    intro acc' hs hn a b hab hb hl hc
    by_cases he : a = i ∧ b = k
    · obtain ⟨rfl, rfl⟩ := he; exact hn hc
    · rcases h.most a b hab hb (by omega) hc with h1 | ⟨d, h1, h2⟩
      · exact .inl (hs _ h1)
      · exact .inr ⟨d, hs _ h1, h2⟩
  unfold stepR
  cases hc : chordR s ⟨nth v i, nth v k⟩ && (acc.all fun d => meetR d ⟨nth v i, nth v k⟩ != 2) with
  | true =>
    rw [if_pos rfl]
    rw [Bool.and_eq_true, List.all_eq_true] at hc
    obtain ⟨h1, h2⟩ := hc
    refine ⟨fun d hd => ?_, ?_, up (fun d hd => List.mem_append_left _ hd) fun _ => .inl (List.mem_append_right _ (List.mem_singleton.2 rfl))⟩
    · rcases List.mem_append.1 hd with hd | hd
      · exact h.chord d hd
      · rw [List.mem_singleton.1 hd]; exact h1
    · rw [List.pairwise_append]
      refine ⟨h.apart, List.pairwise_singleton _ _, fun d hd e he => ?_⟩
      rw [List.mem_singleton.1 he]
      have := h2 d hd
      simpa using this
  | false =>
    rw [if_neg (by simp)]
    refine ⟨h.chord, h.apart, up (fun d hd => hd) fun h1 => ?_⟩
    rw [h1, Bool.true_and, List.all_eq_false] at hc
    obtain ⟨d, hd, h2⟩ := hc
    exact .inr ⟨d, hd, by simpa using h2⟩
theorem row_most {s : Shape} {v : List V} {acc : List S} {i : Nat} (h : Most s v acc i (i + 1)) : ∀ m, Most s v (rowR s v acc i m) i (i + 1 + m)
  | 0 => h
  | m + 1 => step_most (row_most h m)
theorem up_most (s : Shape) (v : List V) : ∀ i, Most s v (diagUp s v i) i (i + 1)
  | 0 => ⟨(fun d hd => by cases hd), List.Pairwise.nil, (fun a b h1 h2 h3 => by omega)⟩
  | i + 1 => by
    have h := row_most (up_most s v i) (v.length - (i + 1))
    exact ⟨h.chord, h.apart, fun a b h1 h2 h3 => h.most a b h1 h2 (by omega)⟩
theorem diag_most (s : Shape) (v : List V) : Most s v (diagR s v) v.length (v.length + 1) := up_most s v v.length
end Go.Proofs.YtdaeofhdgabhjaaGreat.Geo
namespace Go.Proofs.YtdaeofhdgabhjaaGreat
open Go.RowKit
set_option maxRecDepth 100000
noncomputable section
open Geo (Shape chordR meetR nth validSR)
def c30 : Con := con (a1 aSh) (fun s => [BigOk s]) (fun s => .bool (fewW s && validSR s))
theorem k30 : c30.Ok Tryz.prog 30 := con_ok (cx_ok t15o) (raw := noRaw) (fun _ => []
  ) (fun _ => ⟨_, rfl⟩) fun s hp => by_vc (q := BigOk s ∧ (fewW s = true → Fit s ∧ validSR s = (fewW s && validSR s)) ∧
 (fewW s = false → false = (fewW s && validSR s))) (by kernel_rfl) (by
  change BigOk s at hp
  exact ⟨hp, fun h => ⟨fewW_fit hp h, by rw [h]; rfl⟩, fun h => by rw [h]; rfl⟩)
def t30 : Tab := tabL [(30, c30)] t15
theorem t30o : t30.Ok Tryz.prog := tabL_ok t15o ⟨k30, trivial⟩
def cx_ (s : Shape) (i k : Nat) : Geo.S := ⟨nth (vOf s) i, nth (vOf s) k⟩
def freeU (s : Shape) (i k n : Nat) : Bool := chordR s (cx_ s i k) && ((dOf s).take n).all fun d => decide (d ≠ cx_ s i k) && decide (meetR d (cx_ s i k) ≠ 2)
theorem freeU_succ (s : Shape) (i k n : Nat) (h : n < (dOf s).length) : freeU s i k (n + 1) = (freeU s i k n && (decide (nthS (dOf s) n ≠ cx_ s i k) && decide (meetR (nthS (dOf s) n) (cx_ s i k) ≠ 2))) := by
  unfold freeU
  rw [List.take_succ_eq_append_getElem h, List.all_append, ← nthS_eq h, Bool.and_assoc]
  simp
def c6 : Con := con (a1 aSh) (fun s => [BigOk s]) (fun _ => .bool true)
theorem k6 : c6.Ok Tryz.prog 6 := con_ok (cx_ok t30o) (raw := noRaw) (fun s => [lp 10 33 (dOf s).length (fun _ => []) [] (fun _ => []) (fun _ => []) (fun i => [lp 15 50 i (fun _ => []) [] (fun _ => []) (fun _ => [])]), lp 22 67 (vOf s).length (fun _ => []) [] (fun _ => []) (fun _ => []) (fun i => [(25, .mk Nat (fun F _ => natAt F 10) [] (fun k => [i < k, k ≤ (vOf s).length]) (fun k => [(10, .int .i64 (k : Int))]) (fun _ => []) (fun k => (vOf s).length - k) fun k => [lp 30 99 (dOf s).length (fun _ => []) [] (fun n => [(11, .bool (freeU s i k n))]) (fun _ => [])])])]
  ) (fun _ => ⟨_, rfl⟩) fun s hp => by_vc (q := ((!true) = true → false = true) ∧
 ((!true) = false → BigOk s ∧ ((!(fewW s && validSR s)) = true → true = true) ∧
  ((!(fewW s && validSR s)) = false → Fit s ∧ Fit s ∧ (¬ eOf s = 0 → false = true) ∧
   (¬ (¬ eOf s = 0) → (0 = (0 : Int) ∧ (0 : Nat) ≤ (dOf s).length) ∧
    (∀ x : Nat, x ≤ (dOf s).length → ((x : Int) < (dOf s).length → ix (x : Int) (dOf s).length ∧ ix (x : Int) (dOf s).length ∧ Fit s ∧ bd 10000 (nthS (dOf s) x).a ∧ bd 10000 (nthS (dOf s) x).b ∧ ((!chordR s (nthS (dOf s) x)) = true → false = true) ∧
      ((!chordR s (nthS (dOf s) x)) = false → (0 = (0 : Int) ∧ (0 : Nat) ≤ x) ∧
       (∀ x_1 : Nat, x_1 ≤ x → ((x_1 : Int) < x → ix (x : Int) (dOf s).length ∧ ix (x_1 : Int) (dOf s).length ∧ (meetR (nthS (dOf s) x) (nthS (dOf s) x_1) = 2 → false = true) ∧
         (¬ meetR (nthS (dOf s) x) (nthS (dOf s) x_1) = 2 → in64 ((x_1 : Int) + 1) ∧ (x_1 : Int) + 1 = ((x_1 + 1 : Nat) : Int) ∧ x_1 + 1 ≤ x ∧ x - (x_1 + 1) < x - x_1)) ∧
        (¬ (x_1 : Int) < x → in64 ((x : Int) + 1) ∧ (x : Int) + 1 = ((x + 1 : Nat) : Int) ∧ x + 1 ≤ (dOf s).length ∧ (dOf s).length - (x + 1) < (dOf s).length - x)))) ∧
     (¬ (x : Int) < (dOf s).length → (0 = (0 : Int) ∧ (0 : Nat) ≤ (vOf s).length) ∧
      (∀ x_1 : Nat, x_1 ≤ (vOf s).length → ((x_1 : Int) < (vOf s).length → in64 ((x_1 : Int) + 1) ∧ ((x_1 : Int) + 1 = ((x_1 + 1 : Nat) : Int) ∧ x_1 < x_1 + 1 ∧ x_1 + 1 ≤ (vOf s).length) ∧
        (∀ x_2 : Nat, x_1 < x_2 ∧ x_2 ≤ (vOf s).length → ((x_2 : Int) < (vOf s).length → ix (x_1 : Int) (vOf s).length ∧ ix (x_2 : Int) (vOf s).length ∧ Fit s ∧ bd 10000 (nth (vOf s) x_1) ∧ bd 10000 (nth (vOf s) x_2) ∧ ix (x_1 : Int) (vOf s).length ∧ ix (x_2 : Int) (vOf s).length ∧ (0 = (0 : Int) ∧ chordR s (⟨(nth (vOf s) x_1), (nth (vOf s) x_2)⟩ : Geo.S) = freeU s x_1 x_2 0 ∧ (0 : Nat) ≤ (dOf s).length) ∧
          (∀ x_3 : Nat, x_3 ≤ (dOf s).length → ((x_3 : Int) < (dOf s).length → (freeU s x_1 x_2 x_3 = true → ix (x_3 : Int) (dOf s).length ∧ (¬ (nthS (dOf s) x_3) = (⟨(nth (vOf s) x_1), (nth (vOf s) x_2)⟩ : Geo.S) → ix (x_3 : Int) (dOf s).length ∧ in64 ((x_3 : Int) + 1) ∧ (x_3 : Int) + 1 = ((x_3 + 1 : Nat) : Int) ∧ decide (¬ meetR (nthS (dOf s) x_3) (⟨(nth (vOf s) x_1), (nth (vOf s) x_2)⟩ : Geo.S) = 2) = freeU s x_1 x_2 (x_3 + 1) ∧ x_3 + 1 ≤ (dOf s).length ∧ (dOf s).length - (x_3 + 1) < (dOf s).length - x_3) ∧
             (¬ (¬ (nthS (dOf s) x_3) = (⟨(nth (vOf s) x_1), (nth (vOf s) x_2)⟩ : Geo.S)) → in64 ((x_3 : Int) + 1) ∧ (x_3 : Int) + 1 = ((x_3 + 1 : Nat) : Int) ∧ false = freeU s x_1 x_2 (x_3 + 1) ∧ x_3 + 1 ≤ (dOf s).length ∧ (dOf s).length - (x_3 + 1) < (dOf s).length - x_3)) ∧
            (freeU s x_1 x_2 x_3 = false → in64 ((x_3 : Int) + 1) ∧ (x_3 : Int) + 1 = ((x_3 + 1 : Nat) : Int) ∧ false = freeU s x_1 x_2 (x_3 + 1) ∧ x_3 + 1 ≤ (dOf s).length ∧ (dOf s).length - (x_3 + 1) < (dOf s).length - x_3)) ∧
           (¬ (x_3 : Int) < (dOf s).length → (freeU s x_1 x_2 x_3 = true → false = true) ∧
            (freeU s x_1 x_2 x_3 = false → in64 ((x_2 : Int) + 1) ∧ (x_2 : Int) + 1 = ((x_2 + 1 : Nat) : Int) ∧ x_1 < x_2 + 1 ∧ x_2 + 1 ≤ (vOf s).length ∧ (vOf s).length - (x_2 + 1) < (vOf s).length - x_2)))) ∧
         (¬ (x_2 : Int) < (vOf s).length → in64 ((x_1 : Int) + 1) ∧ (x_1 : Int) + 1 = ((x_1 + 1 : Nat) : Int) ∧ x_1 + 1 ≤ (vOf s).length ∧ (vOf s).length - (x_1 + 1) < (vOf s).length - x_1))) ∧
       (¬ (x_1 : Int) < (vOf s).length → true = true)))))))) (by kernel_rfl) (by
  change BigOk s at hp
  have hf : (!(fewW s && validSR s)) = false → Fit s := fun h => fewW_fit hp (by have := nb h; simp only [Bool.and_eq_true] at this; exact this.1)
  have R : (!(fewW s && validSR s)) = false → validSR s = true := fun h => by have := nb h; simp only [Bool.and_eq_true] at this; exact this.2
  have e0 : (!(fewW s && validSR s)) = false → ¬ ¬ eOf s = 0 := fun h h2 => h2 (by unfold eOf; rw [R h]; rfl)
  have M : (!(fewW s && validSR s)) = false → Geo.Most s (vOf s) (dOf s) (vOf s).length ((vOf s).length + 1) := fun h => by rw [dOf_yes (R h)]; exact Geo.diag_most s (vOf s)
  have D : (!(fewW s && validSR s)) = false → ∀ x : Nat, (x : Int) < (dOf s).length → nthS (dOf s) x ∈ dOf s := fun h x hx => by rw [nthS_eq (by omega)]; exact List.getElem_mem _
  have hl := dOf_len s
  have hv := vOf_le s
  have dB : (!(fewW s && validSR s)) = false → ∀ x : Nat, (x : Int) < (dOf s).length → bd 10000 (nthS (dOf s) x).a ∧ bd 10000 (nthS (dOf s) x).b := fun h x hx => by
    have V := vsR (R h)
    have hm : nthS (dOf s) x ∈ Geo.diagR s (vOf s) := (congrArg (fun l => nthS (dOf s) x ∈ l) (dOf_yes (R h))).mp (D h x hx)
    rw [vOf_yes (R h)] at hm
    have hE := Geo.diag_eq V (v := Geo.vertsS (Geo.canonS s)) (fun y hy => (Geo.canon_verts s).mem_iff.1 hy) ((Geo.canon_verts s).nodup_iff.2 V.nodup)
    rw [← hE.1] at hm
    obtain ⟨p, hp2, e⟩ := List.mem_map.1 hm
    obtain ⟨l1, l2⟩ := hE.2.lt p hp2
    rw [← vOf_yes (R h)] at l2 e
    rw [← e]
    exact ⟨vOf_bd (by omega), vOf_bd (by omega)⟩
  have n1 : (!(fewW s && validSR s)) = false → ∀ x : Nat, (x : Int) < (dOf s).length → (!chordR s (nthS (dOf s) x)) = true → false = true := fun h x hx h2 => by
    rw [(M h).chord _ (D h x hx)] at h2; exact h2
  have n2 : (!(fewW s && validSR s)) = false → ∀ x y : Nat, (x : Int) < (dOf s).length → (y : Int) < x → meetR (nthS (dOf s) x) (nthS (dOf s) y) = 2 → false = true := fun h x y hx hy h2 => by
    have := (List.pairwise_iff_getElem.1 (M h).apart) y x (by omega) (by omega) (by omega)
    rw [← nthS_eq (by omega), ← nthS_eq (by omega), ← Geo.meet_eq, Geo.meet_comm, Geo.meet_eq] at this
    exact absurd h2 this
  have z : ∀ i k : Nat, chordR s ⟨nth (vOf s) i, nth (vOf s) k⟩ = freeU s i k 0 := fun i k => by unfold freeU cx_; simp
  have u1 : ∀ i k n : Nat, (n : Int) < (dOf s).length → freeU s i k n = true → ¬ nthS (dOf s) n = ⟨nth (vOf s) i, nth (vOf s) k⟩ → decide (¬ meetR (nthS (dOf s) n) ⟨nth (vOf s) i, nth (vOf s) k⟩ = 2) = freeU s i k (n + 1) := fun i k n h h1 h2 => by
    rw [freeU_succ _ _ _ _ (by omega), h1, decide_eq_true (show nthS (dOf s) n ≠ cx_ s i k from h2)]; rfl
  have u2 : ∀ i k n : Nat, (n : Int) < (dOf s).length → ¬ ¬ nthS (dOf s) n = ⟨nth (vOf s) i, nth (vOf s) k⟩ → false = freeU s i k (n + 1) := fun i k n h h2 => by
    rw [freeU_succ _ _ _ _ (by omega), decide_eq_false (show ¬ nthS (dOf s) n ≠ cx_ s i k from h2)]; simp
  have u3 : ∀ i k n : Nat, (n : Int) < (dOf s).length → freeU s i k n = false → false = freeU s i k (n + 1) := fun i k n h h2 => by
    rw [freeU_succ _ _ _ _ (by omega), h2]; rfl
  have fin : (!(fewW s && validSR s)) = false → ∀ i k n : Nat, i < k → (k : Int) < (vOf s).length → ¬ (n : Int) < (dOf s).length → n ≤ (dOf s).length → freeU s i k n = true → false = true := fun h i k n h1 h2 h3 h4 h5 => by
    obtain rfl : n = (dOf s).length := by omega
    unfold freeU at h5
    rw [List.take_length, Bool.and_eq_true, List.all_eq_true] at h5
    rcases (M h).most i k h1 (by omega) (by omega) h5.1 with g | ⟨d, hd, g⟩
    · have := h5.2 _ g; simp [cx_] at this
    · have := h5.2 _ hd
      simp only [Bool.and_eq_true, decide_eq_true_eq] at this
      exact absurd g this.2
  clear M D R
  repeat' first | with_reducible apply And.intro | with_reducible intro
  all_goals repeat with_reducible cases ‹_ ∧ _›
  all_goals first | assumption | (with_reducible exact hf ‹_›) | (exact absurd ‹_› (e0 ‹_›)) | (with_reducible exact (dB ‹_› _ ‹_›).1) | (with_reducible exact (dB ‹_› _ ‹_›).2) | exact vOf_bd (by omega) | (with_reducible exact n1 ‹_› _ ‹_› ‹_›) | (with_reducible exact n2 ‹_› _ _ ‹_› ‹_› ‹_›) | exact z _ _ | (with_reducible exact u1 _ _ _ ‹_› ‹_› ‹_›) | (with_reducible exact u2 _ _ _ ‹_› ‹_›) | (with_reducible exact u3 _ _ _ ‹_› ‹_›) | (with_reducible exact fin ‹_› _ _ _ ‹_› ‹_› ‹_› ‹_› ‹_›) | omega | (unfold ix; omega) | (unfold in64; omega) | rfl | (exact ‹(!true) = true›))
def t6 : Tab := tabL [(6, c6)] t30
end
end Go.Proofs.YtdaeofhdgabhjaaGreat
namespace Go.Proofs.YtdaeofhdgabhjaaGreat
open Go.ChangeShapes Go.WideShapes Go.ChangeAt Go.RowKit Go.Joins Go.Deep
theorem law_maximal (s : Geo.Shape) (hs : BigOk s) : Sat Tryz.prog false 6 [shapeP s] (.bool true) :=
  sat_of (k6 [aSh.enc s] s rfl ((andL_iff (l := c6.pre s)).1 hs)) (by simp only [avs, av_sh]; rfl) rfl
set_option maxRecDepth 100000 in
theorem maximal_lifted (os : Os) (started : os.Started) (H : Type) (enc : TypeId × Value → H) :
    ReturnsInHanded {} Tryz.checked os 6 .any (Rows.triangleMaximalSpec.pre6 enc Tryz.prog Tryz.f6 Rows.triangleMaximalRow.domain false) (Rows.triangleMaximalSpec.post enc Tryz.prog Tryz.f6 false true false false) := by
  refine returnsInHanded_of_change_sized (C := Tryz.checked) Tryz.own started (by kernel_rfl) Tryz.func6
    (ChangeSpec.witness6 (enc := enc) (C := Tryz.checked) false ⟨#[], #[(.agg #[.slice none 0 0, .slice none 0 0])], []⟩ 8 (by kernel_rfl) (by kernel_rfl) (by kernel_rfl) (by kernel_rfl)) ?_
  intro W base args ds gs before hval0 hW hcnd hsz0 _
  have hval : ∀ (j : Nat) t v, Tryz.f6.params[j]? = some t → args[j]? = some v → Value.okWide Tryz.prog W .any base t v := hval0
  have hsz : (DataW.weightsEach Tryz.prog (Tryz.f6.params.toList ++ Rows.triangleMaximalSpec.plain.varTypes Tryz.prog) (ds ++ gs)).all (· ≤ reachBytes) = true := hsz0
  have hW' := hW
  obtain ⟨p, q, hA0, hV, rfl, hfz, hnd⟩ := hW
  have hA : DataW.TrodAll enc Tryz.prog W 0 (fun _ => true) true Tryz.f6.params.toList args.toList ds p := hA0
  rw [Tryz.params6] at hA hval hsz
  obtain ⟨v0, d0, rfl, rfl, h0⟩ := trodAll_one hA
  obtain ⟨rfl, rfl⟩ := trodVars_none hV
  have hw0 : ∀ n ∈ DataW.weights Tryz.prog 26 d0, n ≤ reachBytes := fun n hn => by
    have := List.all_eq_true.1 hsz n (DataW.weights_mem_each (j := 0) (t := 26) rfl rfl n hn)
    simpa using this
  obtain ⟨s, r0, b0⟩ := open_shape (hval 0 26 v0 rfl rfl) h0 hw0
  clear hA0 hval0
  simp only [List.append_nil] at hW'
  have hcall := (law_maximal s b0).2 (cellW W) W [v0] (fun _ _ _ h => h) (by unfold RepL; exact ⟨v0, [], rfl, r0, by unfold RepL; rfl⟩)
  refine hcall.mono fun e W' ⟨v, he, hr, hB⟩ => ?_
  unfold RepV at hr
  subst he hr
  have hlt0 : ∀ x ∈ p, x.block < W.heap.size := fun x hx => by simpa using hW'.lt x hx
  refine ⟨_, rfl, _, _, _, [], p, [], hW', ?_, ?_, rfl, hB.frame _, fun h => by cases h⟩
  · exact trodAll_mk1 (shut_bool Tryz.underlying4 true)
  · exact trodAll_mk1 (Below.trod Tryz.laidOut (by kernel_rfl) (of_decide_eq_true (by kernel_rfl)) h0 hB hlt0)
theorem maximal_holds : Rows.TriangleMaximalSaid :=
  OpenClaim.holds_of_wide 6 Tryz.f6 rfl rfl rfl rfl rfl rfl rfl ⟨rfl, rfl, rfl, rfl, rfl⟩ rfl rfl rfl rfl rfl (by kernel_rfl) Tryz.func6 (by kernel_rfl)
    (of_decide_eq_true (by kernel_rfl)) (by unfold Func.isWrapper; first | (rw [if_pos (by decide +kernel)]; kernel_rfl) | (rw [if_neg (by decide +kernel)]; exact ⟨rfl, rfl⟩))
    (fun os started H enc _ => maximal_lifted os started H enc)
end Go.Proofs.YtdaeofhdgabhjaaGreat
