/- What the statements about triangulations stand on: contracts of functions, plain laws. Part 2 of 6, no condition of its own. (N10 N11 N12 N15 E1 E3 G1 G2 G3 G4 G5 G6 G7 G8 G9 N16 X1 X2 X3 X4) -/
import Derived.Test.YtdaeofhdgabhjaaGreatD1
import Derived.IntWalk
namespace Go.Proofs.YtdaeofhdgabhjaaGreat
open Go.RowKit
def resA (P : Program) : List ResultVar → List AV → (Nat → Option Ob) → (List AV → Prop) → Prop
  | [], _, _, K => K []
  | .tmp t :: rs, F, σ, K => resA P rs F σ fun l => K (F.getD t .any :: l)
  | .cell a t :: rs, F, σ, K => (match F.getD a .any with
    | .ptr s off => ∃ ob, σ s = some ob ∧ loadA P t ob.cells off fun r => resA P rs F σ fun l => K (r :: l)
    | _ => False)
def outP : List PV → PV
  | [x] => x
  | m => .tup m
def resV (tmps : Array Value) : ResultVar → Sem Value
  | .tmp t => pure (tmps.getD t Go.undef)
  | .cell a t => do loadVar t (← asAddr (tmps.getD a Go.undef))
theorem results_resV (fn : Func) (tmps : Array Value) : results fn tmps = (do let vs ← fn.results.mapM (resV tmps); pure (if h : vs.size = 1 then vs[0] else .tuple vs)) := by
  unfold results
  congr 1
def retP (P : Program) (rs : List ResultVar) (r : PV) : APost := fun e F L _ => match e with
  | .normal | .ret => resA P rs F (look L) fun l => ∃ m, optM (snap 3 (look L)) l = some m ∧ outP m = r
  | _ => False
section
variable {P : Program} {C0 : CellP} {B : Nat} {wI : World}
theorem resA_run {ρ : Ren} {σ : Nat → Option Ob} {a : Act} {w : World} {F : List AV} (hs : StR C0 ρ σ w B) (hf : ∀ t, RepA ρ (CellsOf C0 B w ρ σ) (F.getD t .any) (a.tmps.getD t Go.undef)) :
    ∀ (rs : List ResultVar) (K : List AV → Prop), resA P rs F σ K → ∃ l vs, K l ∧ (rs.mapM (resV a.tmps)).run P w = .ok vs w ∧ RepAL ρ (CellsOf C0 B w ρ σ) l vs
  | [], K, h => ⟨[], [], h, by simp, by unfold RepAL; rfl⟩
  | .tmp t :: rs, K, h => by
    unfold resA at h
    obtain ⟨l, vs, h1, h2, h3⟩ := resA_run hs hf rs _ h
    refine ⟨_, _ :: vs, h1, ?_, by unfold RepAL; exact ⟨_, vs, rfl, hf t, h3⟩⟩
    simp [List.mapM_cons, h2, resV]
  | .cell x t :: rs, K, h => by
    unfold resA at h
    split at h
    · rename_i s off e
      obtain ⟨ob, hob, hl⟩ := h
      obtain ⟨r, hr, hv⟩ := loadA_val hl
      obtain ⟨l, vs, h1, h2, h3⟩ := resA_run hs hf rs _ hr
      have hx := hf x
      rw [e] at hx
      unfold RepA at hx
      obtain ⟨b, c, hq, hpt⟩ := hx
      obtain ⟨_, arr, hO⟩ := hs.at hob hq
      obtain ⟨v, hrun, hrep⟩ := hv _ _ w b c arr hO
      have hrun' : (loadVar t ⟨b, off, none⟩).run P w = .ok v w := by
        simpa [Instr.loadAt, Instr.sureAddr] using hrun
      refine ⟨_, v :: vs, h1, ?_, by unfold RepAL; exact ⟨_, vs, rfl, hrep, h3⟩⟩
      simp only [Array.getD_eq_getD_getElem?] at hpt
      simp [List.mapM_cons, h2, resV, hpt, asAddr, hrun']
    · exact h.elim
theorem sat_of_awp {f : FuncId} {fn : Func} {c : Code} {A : List PV} {r : PV} (hok : okFn P f = true) (hf : P.funcs[f]? = some fn) (hb : fn.body = some c)
    (h : awp P c (retP P fn.results.toList r) (A.map .p ++ List.replicate (fn.ntmps - A.length) .undef) [] 0) : Sat P false f A r := by
  refine ⟨hok, fun C w vs hC hrep => ?_⟩
  have hlen := hrep.length
  refine calls_of_wp hf hb (wp_mono (awp_sound (C0 := C) (B := w.heap.size) (wI := w) c _ _ _ _ _ _ h ?_) ?_)
  · refine ⟨⟨fun _ => none, ⟨fun s o h => by simp [look] at h, fun s s' o o' b c c' h => by simp [look] at h⟩, fun _ _ => rfl, fun t => ?_⟩, Nat.le_refl _, rfl, by simp [hlen], Below.refl _ _⟩
    by_cases ht : t < A.length
    · have e1 : (A.map AV.p ++ List.replicate (fn.ntmps - A.length) AV.undef).getD t .any = .p A[t] := by
        rw [List.getD_eq_getElem?_getD, List.getElem?_append_left (by simpa using ht)]; simp [ht]
      obtain ⟨v, h1, h2⟩ := hrep.get _ _ t A[t] (List.getElem?_eq_getElem ht)
      have e2 : (vs.toArray ++ Array.replicate (fn.ntmps - vs.toArray.size) undef).getD t undef = v := by
        rw [Array.getD_eq_getD_getElem?, Array.getElem?_append_left (by simp; omega)]; simp [h1]
      rw [e1]
      show RepA _ _ _ ((vs.toArray ++ Array.replicate (fn.ntmps - vs.toArray.size) undef).getD t undef)
      rw [e2]
      unfold RepA
      refine RepV.mono (fun b o x hx => ⟨hC b o x hx, fun s c h => (by cases h), .inr hx⟩) _ v h2
    · by_cases ht2 : t < A.length + (fn.ntmps - A.length)
      · have e1 : (A.map AV.p ++ List.replicate (fn.ntmps - A.length) AV.undef).getD t .any = .undef := by
          rw [List.getD_eq_getElem?_getD, List.getElem?_append_right (by simp; omega), List.getElem?_replicate, if_pos (by simp; omega)]; rfl
        have e2 : (vs.toArray ++ Array.replicate (fn.ntmps - vs.toArray.size) undef).getD t undef = undef := by
          rw [Array.getD_eq_getD_getElem?, Array.getElem?_append_right (by simp; omega), Array.getElem?_replicate]
          split <;> rfl
        rw [e1]
        show RepA _ _ _ ((vs.toArray ++ Array.replicate (fn.ntmps - vs.toArray.size) undef).getD t undef)
        rw [e2]; unfold RepA; rfl
      · have e1 : (A.map AV.p ++ List.replicate (fn.ntmps - A.length) AV.undef).getD t .any = .any := by
          rw [List.getD_eq_getElem?_getD, List.getElem?_eq_none (by simp; omega)]; rfl
        rw [e1]; unfold RepA; trivial
  · rintro e a w' ⟨F, L, N, hq, ⟨ρ, s1, s2, s3⟩, s4, s5, s6, s7⟩
    have fin : resA P fn.results.toList F (look L) (fun l => ∃ m, optM (snap 3 (look L)) l = some m ∧ outP m = r) → a.defers = [] ∧ ∃ v, (results fn a.tmps).run P w' = .ok v w' ∧ ∃ v', Ending.returned v = .returned v' ∧ RepV (fun b o x => ((false : Bool) = false ∧ C b o x) ∨ (w.heap.size ≤ b ∧ w'.cell? ⟨b, o, none⟩ = some x)) r v' ∧ Below w.heap.size w w' := by
      intro h
      refine ⟨s5, ?_⟩
      obtain ⟨l, us, ⟨m, hm, hr⟩, h2, h3⟩ := resA_run s1 s3 _ _ h
      have hres : (results fn a.tmps).run P w' = .ok (if h : us.toArray.size = 1 then us.toArray[0] else .tuple us.toArray) w' := by
        rw [results_resV, Array.mapM_eq_mapM_toList]
        simp only [Sem.run_bind, Sem.run_map, h2, Result.andThen_ok, Sem.run_pure]
      refine ⟨_, hres, _, rfl, ?_, s7⟩
      obtain ⟨g1, g2⟩ := optM_get hm
      have hrl : RepL (fun b o x => ((false : Bool) = false ∧ C b o x) ∨ (w.heap.size ≤ b ∧ w'.cell? ⟨b, o, none⟩ = some x)) m us := by
        refine RepL.of _ _ (by rw [← g1]; exact h3.length) fun i y hi => ?_
        have hlt : i < l.length := by rw [g1]; exact (List.getElem?_eq_some_iff.1 hi).1
        obtain ⟨y', h5, h6⟩ := g2 i _ (List.getElem?_eq_getElem hlt)
        rw [hi] at h5; cases h5
        obtain ⟨v, k1, k2⟩ := h3.get _ _ i _ (List.getElem?_eq_getElem hlt)
        refine ⟨v, k1, snap_rep s1 _ (fun _ => True) ?_ ?_ 3 _ _ v h6 (fun s hs' => ⟨trivial, rfl⟩) k2⟩
        · rintro b o x ⟨e1, e2, e3⟩
          rcases e3 with e3 | e3
          · exact .inr ⟨e3, e1⟩
          · exact .inl ⟨rfl, e3⟩
        · intro s ob b c _ _ _ hb o x hx
          exact .inr ⟨hb, hx⟩
      rw [← hr]
      cases m with
      | nil =>
        unfold RepL at hrl; subst hrl
        unfold outP RepV
        exact ⟨[], rfl, by unfold RepL; rfl⟩
      | cons x m =>
        cases m with
        | nil =>
          unfold RepL at hrl
          obtain ⟨v, r', rfl, h7, h8⟩ := hrl
          unfold RepL at h8; subst h8
          unfold outP
          simpa using h7
        | cons y m =>
          have hl : ¬ us.toArray.size = 1 := by have := hrl.length; simp at this; simp; omega
          rw [dif_neg hl]
          unfold outP RepV
          exact ⟨us, rfl, hrl⟩
    cases e <;> first | exact fin hq | exact hq.elim
end
theorem allP_map : ∀ {l : List AV} {A : List PV}, allP l = some A → l = A.map .p
  | [], A, h => by simp [allP] at h; subst h; rfl
  | x :: l, A, h => by
    unfold allP at h
    split at h
    · rename_i e; cases e
    · rename_i y l' e
      cases e
      simp only [Option.map_eq_some_iff] at h
      obtain ⟨r, h1, rfl⟩ := h
      rw [allP_map h1]; rfl
    · cases h
section
variable {P : Program} {σ : Nat → Option Ob} {f : FuncId} {fr : Bool} {A : List PV} {r : PV} {avs : List AV} {K : Res}
theorem goCall_pure (hs : Sat P fr f A r) (hA : allP avs = some A) (hK : K (.p r) [] []) : goCall P σ f avs K := by
  have := allP_map hA
  subst this
  refine .inl ⟨A, optM_p 3 σ A, fr, r, hs, .inl ⟨.inr hA, ?_⟩⟩
  rw [flatM_p]; exact hK
theorem goCall_fresh {R : List Nat} (hs : Sat P true f A r) (hA : optM (snap 3 σ) avs = some A) (hR : flatM (refs 3 σ) avs = R) (hK : K (.p r) R []) : goCall P σ f avs K := by
  subst hR
  exact .inl ⟨A, hA, true, r, hs, .inl ⟨.inl rfl, hK⟩⟩
theorem goCall_drop {R : List Nat} (hs : Sat P fr f A r) (hA : optM (snap 3 σ) avs = some A) (hR : flatM (refs 3 σ) avs = R) (hK : K (.p r) R (R.map (·, none))) : goCall P σ f avs K := by
  subst hR
  exact .inl ⟨A, hA, fr, r, hs, .inr hK⟩
def PV.flat : PV → Bool
  | .int .. | .bool _ | .str _ => true
  | .agg l | .tup l => l.all fun x => match x with | .int .. | .bool _ | .str _ => true | _ => false
  | _ => false
theorem RepV.flat1 {C C' : CellP} {x : PV} {v : Value} (hf : (match x with | .int .. | .bool _ | .str _ => true | _ => false) = true) (h : RepV C x v) : RepV C' x v := by
  cases x <;> first | (cases hf; done) | (unfold RepV at *; exact h)
theorem RepL.flat {C C' : CellP} : ∀ {l : List PV} {vs : List Value}, l.all (fun x => match x with | .int .. | .bool _ | .str _ => true | _ => false) = true → RepL C l vs → RepL C' l vs
  | [], vs, _, h => by unfold RepL at *; exact h
  | x :: l, vs, hf, h => by
    unfold RepL at *
    obtain ⟨v, r, rfl, h1, h2⟩ := h
    simp only [List.all_cons, Bool.and_eq_true] at hf
    exact ⟨v, r, rfl, RepV.flat1 hf.1 h1, RepL.flat hf.2 h2⟩
theorem RepV.flat {C C' : CellP} {x : PV} {v : Value} (hf : x.flat = true) (h : RepV C x v) : RepV C' x v := by
  cases x <;> first | (cases hf; done) | (unfold RepV at *; exact h) | skip
  · unfold RepV at *
    obtain ⟨vs, h1, h2, h3⟩ := h
    exact ⟨vs, h1, RepL.flat hf h2, h3⟩
  · unfold RepV at *
    obtain ⟨vs, h1, h2⟩ := h
    exact ⟨vs, h1, RepL.flat hf h2⟩
theorem Sat.fresh (hs : Sat P fr f A r) (hf : r.flat = true) : Sat P true f A r :=
  ⟨hs.1, fun C w vs hC hr => (hs.2 C w vs hC hr).mono fun _e _w' ⟨v, h1, h2, h3⟩ => ⟨v, h1, RepV.flat hf h2, h3⟩⟩
end
def retO (P : Program) (rs : List ResultVar) (ty esz : Nat) (cells : List PV) (m : Nat) (ys : List PV) : APost := fun e F L _ => match e with
  | .normal | .ret => resA P rs F (look L) fun l => (∃ s, l = .own s 0 m :: ys.map .p ∧ look L s = some ⟨ty, esz, cells.map .p⟩) ∨ (l = .nil :: ys.map .p ∧ m = 0 ∧ cells = [])
  | _ => False
section
variable {P : Program} {C0 : CellP} {B : Nat} {wI : World}
theorem RepAL.of_map_p {ρ : Ren} {C : CellP} : ∀ {l : List PV} {vs : List Value}, RepAL ρ C (l.map .p) vs → RepL C l vs
  | [], vs, h => by simp only [List.map_nil] at h; unfold RepAL at h; unfold RepL; exact h
  | x :: l, vs, h => by
    simp only [List.map_cons] at h; unfold RepAL at h
    obtain ⟨v, r, rfl, h2, h3⟩ := h
    unfold RepA at h2
    unfold RepL; exact ⟨v, r, rfl, h2, RepAL.of_map_p h3⟩
theorem start_awp {f : FuncId} {fn : Func} {c : Code} {A : List PV} {Q : APost} {C : CellP} {w : World} {vs : List Value} {R : Ending → World → Prop} (hf : P.funcs[f]? = some fn) (hb : fn.body = some c) (hC : ∀ b o v, C b o v → w.cell? ⟨b, o, none⟩ = some v) (hrep : RepL C A vs)
    (h : awp P c Q (A.map .p ++ List.replicate (fn.ntmps - A.length) .undef) [] 0)
    (hR : ∀ e a w' F L N, Q e F L N → St C w.heap.size w F (look L) N a w' → (match e with | .normal | .ret => a.defers = [] ∧ ∃ v, (results fn a.tmps).run P w' = .ok v w' ∧ R (.returned v) w' | _ => False)) : Calls P f vs.toArray w R := by
  have hlen := hrep.length
  refine calls_of_wp hf hb (wp_mono (awp_sound (C0 := C) (B := w.heap.size) (wI := w) c _ _ _ _ _ _ h ?_) ?_)
  · refine ⟨⟨fun _ => none, ⟨fun s o h => by simp [look] at h, fun s s' o o' b c c' h => by simp [look] at h⟩, fun _ _ => rfl, fun t => ?_⟩, Nat.le_refl _, rfl, by simp [hlen], Below.refl _ _⟩
    by_cases ht : t < A.length
    · have e1 : (A.map AV.p ++ List.replicate (fn.ntmps - A.length) AV.undef).getD t .any = .p A[t] := by
        rw [List.getD_eq_getElem?_getD, List.getElem?_append_left (by simpa using ht)]; simp [ht]
      obtain ⟨v, h1, h2⟩ := hrep.get _ _ t A[t] (List.getElem?_eq_getElem ht)
      have e2 : (vs.toArray ++ Array.replicate (fn.ntmps - vs.toArray.size) undef).getD t undef = v := by
        rw [Array.getD_eq_getD_getElem?, Array.getElem?_append_left (by simp; omega)]; simp [h1]
      rw [e1]
      show RepA _ _ _ ((vs.toArray ++ Array.replicate (fn.ntmps - vs.toArray.size) undef).getD t undef)
      rw [e2]
      unfold RepA
      refine RepV.mono (fun b o x hx => ⟨hC b o x hx, fun s c h => (by cases h), .inr hx⟩) _ v h2
    · by_cases ht2 : t < A.length + (fn.ntmps - A.length)
      · have e1 : (A.map AV.p ++ List.replicate (fn.ntmps - A.length) AV.undef).getD t .any = .undef := by
          rw [List.getD_eq_getElem?_getD, List.getElem?_append_right (by simp; omega), List.getElem?_replicate, if_pos (by simp; omega)]; rfl
        have e2 : (vs.toArray ++ Array.replicate (fn.ntmps - vs.toArray.size) undef).getD t undef = undef := by
          rw [Array.getD_eq_getD_getElem?, Array.getElem?_append_right (by simp; omega), Array.getElem?_replicate]
          split <;> rfl
        rw [e1]
        show RepA _ _ _ ((vs.toArray ++ Array.replicate (fn.ntmps - vs.toArray.size) undef).getD t undef)
        rw [e2]; unfold RepA; rfl
      · have e1 : (A.map AV.p ++ List.replicate (fn.ntmps - A.length) AV.undef).getD t .any = .any := by
          rw [List.getD_eq_getElem?_getD, List.getElem?_eq_none (by simp; omega)]; rfl
        rw [e1]; unfold RepA; trivial
  · rintro e a w' ⟨F, L, N, hq, hS⟩
    have := hR e a w' F L N hq hS
    cases e <;> first | exact this | exact this.elim
theorem sato_of_awp {f : FuncId} {fn : Func} {c : Code} {A : List PV} {ty esz : Nat} {cells : List PV} {m : Nat} {ys : List PV} (hok : okFn P f = true) (he : esz ≠ 0) (hf : P.funcs[f]? = some fn) (hb : fn.body = some c)
    (h : awp P c (retO P fn.results.toList ty esz cells m ys) (A.map .p ++ List.replicate (fn.ntmps - A.length) .undef) [] 0) : SatO P f A ty esz cells m ys := by
  refine ⟨hok, he, fun C w vs hC hrep => start_awp hf hb hC hrep h ?_⟩
  rintro e a w' F L N hq ⟨⟨ρ, s1, s2, s3⟩, s4, s5, s6, s7⟩
  have fin : resA P fn.results.toList F (look L) (fun l => (∃ s, l = .own s 0 m :: ys.map .p ∧ look L s = some ⟨ty, esz, cells.map .p⟩) ∨ (l = .nil :: ys.map .p ∧ m = 0 ∧ cells = [])) → a.defers = [] ∧ ∃ v, (results fn a.tmps).run P w' = .ok v w' ∧ ∃ v' us q c, Ending.returned v = .returned (outO v' us) ∧ Below w.heap.size w w' ∧ RepL (keepO C w.heap.size q w') ys us ∧
      ((q = none ∧ v' = .slice none 0 0 ∧ m = 0 ∧ cells = [] ∧ c = 0) ∨ ∃ b arr, q = some b ∧ v' = .slice (some ⟨b, 0, none⟩) m c ∧ m ≤ c ∧ w.heap.size ≤ b ∧ w'.heap[b]? = some (.cells arr ty (0, 0)) ∧
        arr.size = c * esz ∧ cells.length ≤ arr.size ∧ c ≤ maxLen ∧ ∀ (i : Nat) x, cells[i]? = some x → ∃ u, arr[i]? = some u ∧ u.oneCell' = true ∧ RepV (keepO C w.heap.size q w') x u) := by
    intro h
    refine ⟨s5, ?_⟩
    obtain ⟨l, us, hl, h2, h3⟩ := resA_run s1 s3 _ _ h
    have hres : (results fn a.tmps).run P w' = .ok (if h : us.toArray.size = 1 then us.toArray[0] else .tuple us.toArray) w' := by
      rw [results_resV, Array.mapM_eq_mapM_toList]
      simp only [Sem.run_bind, Sem.run_map, h2, Result.andThen_ok, Sem.run_pure]
    refine ⟨_, hres, ?_⟩
    have hout : ∀ v us', us = v :: us' → (if h : us.toArray.size = 1 then us.toArray[0] else Value.tuple us.toArray) = outO v us' := by
      rintro v us' rfl
      cases us' with
      | nil => rfl
      | cons u us' => rw [dif_neg (by simp)]; rfl
    rcases hl with ⟨s, rfl, hs⟩ | ⟨rfl, hm, hc⟩
    · unfold RepAL at h3
      obtain ⟨v, us', rfl, hv, hys⟩ := h3
      unfold RepA at hv
      obtain ⟨q, c, hρ, hcase⟩ := hv
      have hkeep : ∀ b o x, CellsOf C w.heap.size w' ρ (look L) b o x → keepO C w.heap.size q w' b o x := by
        rintro b o x ⟨e1, e2, e3 | e3⟩
        · refine .inr ⟨e3, fun hq => ?_, e1⟩
          subst hq
          have := e2 s c hρ
          rw [hs] at this; cases this
        · exact .inl e3
      refine ⟨v, us', q, c, by rw [hout v us' rfl], s7, RepL.mono hkeep _ _ (RepAL.of_map_p hys), ?_⟩
      obtain ⟨q2, c2, hρ2, hob⟩ := s1.ob s _ hs
      rw [hρ] at hρ2
      cases hρ2
      rcases hcase with ⟨h1, h4, h5, _⟩ | ⟨b, o', c', h1, h4, h5, h6, h7⟩
      · rcases hob with ⟨_, _, h8, h9⟩ | ⟨b, arr, h8, _⟩
        · exact .inl ⟨h1, h4, h5, by simpa using h8, h9⟩
        · rw [h1] at h8; cases h8
      · obtain ⟨rfl, rfl⟩ := h7 rfl
        rcases hob with ⟨h8, _⟩ | ⟨b2, arr, h8, h9, h10⟩
        · rw [h1] at h8; cases h8
        · rw [h1] at h8; cases h8
          obtain ⟨r1, r2, r3⟩ := h10.row he
          refine .inr ⟨b, arr, h1, h4, h5, h9, h10.blk, r1, by simpa using r2, r3, fun i x hi => ?_⟩
          obtain ⟨u, k1, k2, k3⟩ := h10.cells i (.p x) (by show (cells.map AV.p)[i]? = _; rw [List.getElem?_map, hi]; rfl)
          unfold RepA at k3
          exact ⟨u, k1, k2, RepV.mono hkeep x u k3⟩
    · unfold RepAL at h3
      obtain ⟨v, us', rfl, hv, hys⟩ := h3
      unfold RepA at hv
      refine ⟨v, us', none, 0, by rw [hout v us' rfl], s7, RepL.mono ?_ _ _ (RepAL.of_map_p hys), .inl ⟨rfl, hv, hm, hc, rfl⟩⟩
      rintro b o x ⟨e1, e2, e3 | e3⟩
      · exact .inr ⟨e3, (fun h => by cases h), e1⟩
      · exact .inl e3
  cases e <;> first | exact fin hq | exact hq.elim
end
end Go.Proofs.YtdaeofhdgabhjaaGreat
namespace Go.Proofs.YtdaeofhdgabhjaaGreat
open Go.RowKit
theorem T3_size : tsize Tryz.prog 3 = 1 := by kernel_rfl
theorem T3_agg : tagg Tryz.prog 3 = false := by kernel_rfl
theorem T3_tok : tok Tryz.prog 3 = true := by kernel_rfl
theorem T3_info : (Tryz.prog.info? 3).isSome = true := by kernel_rfl
theorem T3_und : (Tryz.prog.underlying 3).isSome = true := by kernel_rfl
theorem T3_int : tint Tryz.prog 3 = some .i64 := by kernel_rfl
theorem T3_zero : tzero Tryz.prog 3 = some [.p (.int .i64 0)] := by kernel_rfl
theorem T3_zone : tzone Tryz.prog 3 = true := by kernel_rfl
theorem T3_app : tapp Tryz.prog 3 = true := by kernel_rfl
theorem T23_size : tsize Tryz.prog 23 = 1 := by kernel_rfl
theorem T23_agg : tagg Tryz.prog 23 = false := by kernel_rfl
theorem T23_tok : tok Tryz.prog 23 = true := by kernel_rfl
theorem T23_info : (Tryz.prog.info? 23).isSome = true := by kernel_rfl
theorem T23_und : (Tryz.prog.underlying 23).isSome = true := by kernel_rfl
theorem T23_elem : telem Tryz.prog 23 = some 44 := by kernel_rfl
theorem T23_zero : tzero Tryz.prog 23 = some [.nil] := by kernel_rfl
theorem T23_zone : tzone Tryz.prog 23 = true := by kernel_rfl
theorem T23_app : tapp Tryz.prog 23 = true := by kernel_rfl
theorem T24_size : tsize Tryz.prog 24 = 1 := by kernel_rfl
theorem T24_agg : tagg Tryz.prog 24 = false := by kernel_rfl
theorem T24_tok : tok Tryz.prog 24 = true := by kernel_rfl
theorem T24_info : (Tryz.prog.info? 24).isSome = true := by kernel_rfl
theorem T24_und : (Tryz.prog.underlying 24).isSome = true := by kernel_rfl
theorem T24_elem : telem Tryz.prog 24 = some 23 := by kernel_rfl
theorem T24_zero : tzero Tryz.prog 24 = some [.nil] := by kernel_rfl
theorem T24_zone : tzone Tryz.prog 24 = true := by kernel_rfl
theorem T24_app : tapp Tryz.prog 24 = true := by kernel_rfl
theorem T26_size : tsize Tryz.prog 26 = 2 := by kernel_rfl
theorem T26_agg : tagg Tryz.prog 26 = true := by kernel_rfl
theorem T26_tok : tok Tryz.prog 26 = true := by kernel_rfl
theorem T26_info : (Tryz.prog.info? 26).isSome = true := by kernel_rfl
theorem T26_und : (Tryz.prog.underlying 26).isSome = true := by kernel_rfl
theorem T26_p0 : places Tryz.prog 26 0 = some (0, 1) := by kernel_rfl
theorem T26_f0 : foff Tryz.prog 26 0 = some (0, 23) := by kernel_rfl
theorem T26_p1 : places Tryz.prog 26 1 = some (1, 1) := by kernel_rfl
theorem T26_f1 : foff Tryz.prog 26 1 = some (1, 24) := by kernel_rfl
theorem T26_parts : partsOk Tryz.prog 26 = true := by kernel_rfl
theorem T26_zero : tzero Tryz.prog 26 = some [.nil, .nil] := by kernel_rfl
theorem T26_zone : tzone Tryz.prog 26 = true := by kernel_rfl
theorem T26_app : tapp Tryz.prog 26 = true := by kernel_rfl
theorem T32_size : tsize Tryz.prog 32 = 1 := by kernel_rfl
theorem T32_agg : tagg Tryz.prog 32 = false := by kernel_rfl
theorem T32_tok : tok Tryz.prog 32 = true := by kernel_rfl
theorem T32_info : (Tryz.prog.info? 32).isSome = true := by kernel_rfl
theorem T32_und : (Tryz.prog.underlying 32).isSome = true := by kernel_rfl
theorem T32_elem : telem Tryz.prog 32 = some 46 := by kernel_rfl
theorem T32_zero : tzero Tryz.prog 32 = some [.nil] := by kernel_rfl
theorem T32_zone : tzone Tryz.prog 32 = true := by kernel_rfl
theorem T32_app : tapp Tryz.prog 32 = true := by kernel_rfl
theorem T44_size : tsize Tryz.prog 44 = 2 := by kernel_rfl
theorem T44_agg : tagg Tryz.prog 44 = true := by kernel_rfl
theorem T44_tok : tok Tryz.prog 44 = true := by kernel_rfl
theorem T44_info : (Tryz.prog.info? 44).isSome = true := by kernel_rfl
theorem T44_und : (Tryz.prog.underlying 44).isSome = true := by kernel_rfl
theorem T44_p0 : places Tryz.prog 44 0 = some (0, 1) := by kernel_rfl
theorem T44_f0 : foff Tryz.prog 44 0 = some (0, 3) := by kernel_rfl
theorem T44_p1 : places Tryz.prog 44 1 = some (1, 1) := by kernel_rfl
theorem T44_f1 : foff Tryz.prog 44 1 = some (1, 3) := by kernel_rfl
theorem T44_parts : partsOk Tryz.prog 44 = true := by kernel_rfl
theorem T44_zero : tzero Tryz.prog 44 = some [.p (.int .i64 0), .p (.int .i64 0)] := by kernel_rfl
theorem T44_zone : tzone Tryz.prog 44 = true := by kernel_rfl
theorem T44_app : tapp Tryz.prog 44 = true := by kernel_rfl
theorem T46_size : tsize Tryz.prog 46 = 4 := by kernel_rfl
theorem T46_agg : tagg Tryz.prog 46 = true := by kernel_rfl
theorem T46_tok : tok Tryz.prog 46 = true := by kernel_rfl
theorem T46_info : (Tryz.prog.info? 46).isSome = true := by kernel_rfl
theorem T46_und : (Tryz.prog.underlying 46).isSome = true := by kernel_rfl
theorem T46_p0 : places Tryz.prog 46 0 = some (0, 2) := by kernel_rfl
theorem T46_f0 : foff Tryz.prog 46 0 = some (0, 44) := by kernel_rfl
theorem T46_p1 : places Tryz.prog 46 1 = some (2, 2) := by kernel_rfl
theorem T46_f1 : foff Tryz.prog 46 1 = some (2, 44) := by kernel_rfl
theorem T46_parts : partsOk Tryz.prog 46 = true := by kernel_rfl
theorem T46_zero : tzero Tryz.prog 46 = some [.p (.int .i64 0), .p (.int .i64 0), .p (.int .i64 0), .p (.int .i64 0)] := by kernel_rfl
theorem T46_zone : tzone Tryz.prog 46 = true := by kernel_rfl
theorem T46_app : tapp Tryz.prog 46 = true := by kernel_rfl
theorem T65_size : tsize Tryz.prog 65 = 1 := by kernel_rfl
theorem T65_agg : tagg Tryz.prog 65 = false := by kernel_rfl
theorem T65_tok : tok Tryz.prog 65 = true := by kernel_rfl
theorem T65_info : (Tryz.prog.info? 65).isSome = true := by kernel_rfl
theorem T65_und : (Tryz.prog.underlying 65).isSome = true := by kernel_rfl
theorem T65_elem : telem Tryz.prog 65 = some 67 := by kernel_rfl
theorem T65_zero : tzero Tryz.prog 65 = some [.nil] := by kernel_rfl
theorem T65_zone : tzone Tryz.prog 65 = true := by kernel_rfl
theorem T65_app : tapp Tryz.prog 65 = true := by kernel_rfl
theorem T67_size : tsize Tryz.prog 67 = 2 := by kernel_rfl
theorem T67_agg : tagg Tryz.prog 67 = true := by kernel_rfl
theorem T67_tok : tok Tryz.prog 67 = true := by kernel_rfl
theorem T67_info : (Tryz.prog.info? 67).isSome = true := by kernel_rfl
theorem T67_und : (Tryz.prog.underlying 67).isSome = true := by kernel_rfl
theorem T67_arr : tarr Tryz.prog 67 = some (2, 3) := by kernel_rfl
theorem T67_p0 : places Tryz.prog 67 0 = some (0, 1) := by kernel_rfl
theorem T67_p1 : places Tryz.prog 67 1 = some (1, 1) := by kernel_rfl
theorem T67_parts : partsOk Tryz.prog 67 = true := by kernel_rfl
theorem T67_zero : tzero Tryz.prog 67 = some [.p (.int .i64 0), .p (.int .i64 0)] := by kernel_rfl
theorem T67_zone : tzone Tryz.prog 67 = true := by kernel_rfl
theorem T67_app : tapp Tryz.prog 67 = true := by kernel_rfl
theorem T129_parts : partsOk Tryz.prog 129 = true := by kernel_rfl
end Go.Proofs.YtdaeofhdgabhjaaGreat
namespace Go.Proofs.YtdaeofhdgabhjaaGreat
open Go.RowKit
abbrev Rn := List (Nat × Option Nat)
def rnAt : Rn → Nat → Option (Option Nat)
  | [], _ => none
  | (k, x) :: m, s => if s = k then some x else rnAt m s
def rnQ (m : Rn) : AV → AV
  | .ptr s off => (match rnAt m s with | some (some o) => .ptr o off | _ => .any)
  | x => x
def okQ (m : Rn) : AV → Bool
  | .p _ => true
  | .ptr s _ => (match rnAt m s with | some (some _) => true | _ => false)
  | _ => false
def relS (m : Rn) (x' y : AV) : Prop := match x' with
  | .any => True
  | .p x => y = .p x
  | .nil => y = .nil
  | .undef => y = .undef
  | .ptr s off => (match rnAt m s with | some (some o) => y = .ptr o off | _ => False)
  | .own s o n => (match rnAt m s with | some (some s') => y = .own s' o n | some none => y = .nil ∧ o = 0 ∧ n = 0 | none => False)
  | .fn f a b => y = .fn f (a.map (rnQ m)) (b.map (rnQ m)) ∧ a.all (okQ m) = true ∧ b.all (okQ m) = true
  | _ => False
def relL (m : Rn) : List AV → List AV → Prop
  | [], [] => True
  | x :: l, y :: r => relS m x y ∧ relL m l r
  | _, _ => False
def relO (m : Rn) (ob' ob : Ob) : Prop := ob'.ty = ob.ty ∧ ob'.esz = ob.esz ∧ if ob.esz = 0 then relL m ob'.cells ob.cells else ∃ l : List PV, ob'.cells = l.map .p ∧ ob.cells = l.map .p
def okL (m : Rn) (L : Sto) : Sto → Prop
  | [] => True
  | (_, none) :: r => okL m L r
  | (s, some ob') :: r => (match rnAt m s with | some (some o) => ∃ ob, look L o = some ob ∧ relO m ob' ob | some none => ob'.esz ≠ 0 ∧ ob'.cells = [] | none => False) ∧ okL m L r
def rnOk (m : Rn) (N : Nat) : Bool := m.all (fun q => decide (q.1 < N)) && (let l := m.filterMap (·.2); (List.range l.length).all fun i => (List.range i).all fun j => l[i]? != l[j]?)
theorem rnAt_mem {m : Rn} {s : Nat} {x : Option Nat} (h : rnAt m s = some x) : (s, x) ∈ m := by
  induction m with
  | nil => cases h
  | cons q m ih =>
    obtain ⟨k, y⟩ := q
    unfold rnAt at h
    split at h
    · rename_i e; cases h; subst e; exact List.mem_cons_self
    · exact List.mem_cons_of_mem _ (ih h)
theorem okL_look {m : Rn} {L : Sto} : ∀ {L' : Sto}, okL m L L' → ∀ s ob', look L' s = some ob' → match rnAt m s with | some (some o) => ∃ ob, look L o = some ob ∧ relO m ob' ob | some none => ob'.esz ≠ 0 ∧ ob'.cells = [] | none => False
  | [], _, s, ob', h => by simp [look] at h
  | (k, none) :: r, hk, s, ob', h => by
    unfold look at h
    split at h
    · cases h
    · exact okL_look (by simpa [okL] using hk) s ob' h
  | (k, some ob) :: r, hk, s, ob', h => by
    unfold look at h
    unfold okL at hk
    split at h
    · rename_i e; cases h; subst e; exact hk.1
    · exact okL_look hk.2 s ob' h
theorem rnOk_inj {m : Rn} {N : Nat} (h : rnOk m N = true) : (∀ s x, rnAt m s = some x → s < N) ∧ ∀ s s' o, rnAt m s = some (some o) → rnAt m s' = some (some o) → s = s' := by
  unfold rnOk at h
  rw [Bool.and_eq_true] at h
  obtain ⟨h1, h2⟩ := h
  refine ⟨?_, ?_⟩
  · intro s x hs
    rw [List.all_eq_true] at h1
    simpa using h1 _ (rnAt_mem hs)
  · dsimp only at h2
    have key : ∀ (m : Rn), (∀ i j, j < i → i < (m.filterMap (·.2)).length → (m.filterMap (·.2))[i]? ≠ (m.filterMap (·.2))[j]?) → ∀ s s' o, rnAt m s = some (some o) → rnAt m s' = some (some o) → s = s' := by
      intro m
      induction m with
      | nil => intro _ s s' o h; cases h
      | cons q m ih =>
        obtain ⟨k, y⟩ := q
        intro hn s s' o hs hs'
        have hmem : ∀ (m : Rn) (s o : Nat), rnAt m s = some (some o) → o ∈ m.filterMap (·.2) := fun m s o h => List.mem_filterMap.2 ⟨_, rnAt_mem h, rfl⟩
        cases y with
        | none =>
          unfold rnAt at hs hs'
          split at hs
          · cases hs
          · split at hs'
            · cases hs'
            · exact ih (by simpa using hn) s s' o hs hs'
        | some y =>
          have hno : y ∉ m.filterMap (·.2) := by
            intro hm
            obtain ⟨i, hi, he⟩ := List.getElem_of_mem hm
            have := hn (i + 1) 0 (by omega) (by simp at hi ⊢; omega)
            apply this
            simp at he ⊢
            rw [List.getElem?_eq_getElem (by simpa using hi)]
            simpa using he
          have hn' : ∀ i j, j < i → i < (m.filterMap (·.2)).length → (m.filterMap (·.2))[i]? ≠ (m.filterMap (·.2))[j]? := by
            intro i j hj hi
            have := hn (i + 1) (j + 1) (by omega) (by simp at hi ⊢; omega)
            simpa using this
          unfold rnAt at hs hs'
          split at hs
          · rename_i e1
            cases hs
            split at hs'
            · rename_i e2; rw [e1, e2]
            · exact absurd (hmem m s' o hs') hno
          · split at hs'
            · cases hs'
              exact absurd (hmem m s o hs) hno
            · exact ih hn' s s' o hs hs'
    refine key m ?_
    intro i j hj hi
    rw [List.all_eq_true] at h2
    have := h2 i (List.mem_range.2 hi)
    rw [List.all_eq_true] at this
    simpa using this j (List.mem_range.2 hj)
theorem weak_ren {F F' : List AV} {L L' : Sto} {N N' : Nat} (m : Rn) (hm : rnOk m N' = true) (hF : relL m F' F) (hL : okL m L L') : Weak F L N F' L' N' := by
  intro C0 B wI a w ⟨⟨ρ, s1, s2, s3⟩, s4, s5, s6, s7⟩
  obtain ⟨hlt, hinj⟩ := rnOk_inj hm
  let ρ' : Ren := fun s => match rnAt m s with | some (some o) => ρ o | some none => some (none, 0) | none => none
  have hCC : ∀ b o v, CellsOf C0 B w ρ (look L) b o v → CellsOf C0 B w ρ' (look L') b o v := by
    intro b o v ⟨e1, e2, e3⟩
    refine ⟨e1, fun s c hs => ?_, e3⟩
    cases hl : look L' s with
    | none => rfl
    | some ob' =>
      have := okL_look hL s ob' hl
      simp only [ρ'] at hs
      split at hs
      · rename_i o' ho
        rw [ho] at this
        obtain ⟨ob, h1, _⟩ := this
        rw [e2 o' c hs] at h1; cases h1
      · cases hs
      · cases hs
  have hQ : ∀ x' v, okQ m x' = true → RepA ρ (CellsOf C0 B w ρ (look L)) (rnQ m x') v → RepA ρ' (CellsOf C0 B w ρ' (look L')) x' v := by
    intro x' v hk hx
    unfold okQ at hk
    split at hk
    · unfold rnQ RepA at hx; unfold RepA; exact RepV.mono hCC _ v hx
    · rename_i s off
      split at hk
      · rename_i o ho
        have e : rnQ m (.ptr s off) = .ptr o off := by simp only [rnQ, ho]
        rw [e] at hx
        unfold RepA at *
        obtain ⟨b, c, h1, h2⟩ := hx
        exact ⟨b, c, by simp only [ρ', ho]; exact h1, h2⟩
      · cases hk
    · cases hk
  have hQL : ∀ (l : List AV) (vs : List Value), l.all (okQ m) = true → RepAL ρ (CellsOf C0 B w ρ (look L)) (l.map (rnQ m)) vs → RepAL ρ' (CellsOf C0 B w ρ' (look L')) l vs := by
    intro l
    induction l with
    | nil => intro vs _ h; simp only [List.map_nil] at h; unfold RepAL at *; exact h
    | cons x l ih =>
      intro vs hk h
      simp only [List.map_cons] at h
      simp only [List.all_cons, Bool.and_eq_true] at hk
      unfold RepAL at h ⊢
      obtain ⟨v, r, rfl, h1, h2⟩ := h
      exact ⟨v, r, rfl, hQ x v hk.1 h1, ih r hk.2 h2⟩
  have hrel : ∀ x' x v, relS m x' x → RepA ρ (CellsOf C0 B w ρ (look L)) x v → RepA ρ' (CellsOf C0 B w ρ' (look L')) x' v := by
    intro x' x v hr hx
    unfold relS at hr
    split at hr
    · unfold RepA; trivial
    · subst hr; unfold RepA at *; exact RepV.mono hCC _ v hx
    · subst hr; unfold RepA at *; exact hx
    · subst hr; unfold RepA at *; exact hx
    · split at hr
      · rename_i o ho
        subst hr
        unfold RepA at *
        obtain ⟨b, c, h1, h2⟩ := hx
        exact ⟨b, c, by simp only [ρ', ho]; exact h1, h2⟩
      · exact hr.elim
    · split at hr
      · rename_i o ho
        subst hr
        unfold RepA at *
        obtain ⟨q, c, h1, h2⟩ := hx
        exact ⟨q, c, by simp only [ρ', ho]; exact h1, h2⟩
      · rename_i ho
        obtain ⟨rfl, rfl, rfl⟩ := hr
        unfold RepA at *
        exact ⟨none, 0, by simp only [ρ', ho], .inl ⟨rfl, hx, rfl, rfl⟩⟩
      · exact hr.elim
    · obtain ⟨rfl, k1, k2⟩ := hr
      unfold RepA at *
      obtain ⟨vs1, vs2, h1, h2, h3⟩ := hx
      exact ⟨vs1, vs2, h1, hQL _ _ k1 h2, hQL _ _ k2 h3⟩
    · exact hr.elim
  have hrelL : ∀ (l' l : List AV), relL m l' l → l'.length = l.length ∧ ∀ (i : Nat) x', l'[i]? = some x' → ∃ x, l[i]? = some x ∧ relS m x' x := by
    intro l'
    induction l' with
    | nil => intro l h; cases l with | nil => exact ⟨rfl, fun i x' h => by simp at h⟩ | cons _ _ => exact h.elim
    | cons y l' ih =>
      intro l h
      cases l with
      | nil => exact h.elim
      | cons z l =>
        obtain ⟨h1, h2⟩ := h
        obtain ⟨g1, g2⟩ := ih l h2
        refine ⟨by simp [g1], fun i x' hi => ?_⟩
        cases i with
        | zero => simp at hi; subst hi; exact ⟨z, rfl, h1⟩
        | succ i => simpa using g2 i x' (by simpa using hi)
  obtain ⟨hlen, hsl⟩ := hrelL F' F hF
  refine ⟨⟨ρ', ⟨?_, ?_⟩, ?_, ?_⟩, s4, s5, by rw [s6, hlen], s7⟩
  · intro s ob' hl
    have := okL_look hL s ob' hl
    split at this
    · rename_i o ho
      obtain ⟨ob, h1, h2, h3, h4⟩ := this
      replace h4 : (∃ l : List PV, ob'.cells = l.map .p ∧ ob.cells = l.map .p) ∨ relL m ob'.cells ob.cells := by
        split at h4
        · exact .inr h4
        · exact .inl h4
      obtain ⟨q, c, k1, k2⟩ := s1.ob o ob h1
      refine ⟨q, c, by simp only [ρ', ho]; exact k1, ?_⟩
      rcases k2 with ⟨k2, k3, k4, k5⟩ | ⟨b, arr, k2, k3, k4⟩
      · refine .inl ⟨k2, by rw [h3]; exact k3, ?_, k5⟩
        rcases h4 with ⟨l, e1, e2⟩ | h4
        · rw [e1, ← e2]; exact k4
        · rw [k4] at h4
          have := (hrelL _ _ h4).1
          exact List.length_eq_zero_iff.1 (by simpa using this)
      · have hlen2 : ob'.cells.length = ob.cells.length := by
          rcases h4 with ⟨l, e1, e2⟩ | h4
          · rw [e1, e2]
          · exact (hrelL _ _ h4).1
        refine .inr ⟨b, arr, k2, k3, ⟨by rw [h2]; exact k4.blk, fun hz => by rw [hlen2]; exact k4.box (by rw [← h3]; exact hz), fun hz => by rw [h3, hlen2]; exact k4.row (by rw [← h3]; exact hz), ?_⟩⟩
        intro i x' hi
        rcases h4 with ⟨l, e1, e2⟩ | h4
        · rw [e1, ← e2] at hi
          obtain ⟨v, g1, g2, g3⟩ := k4.cells i x' hi
          refine ⟨v, g1, g2, ?_⟩
          rw [e2, List.getElem?_map] at hi
          cases hli : l[i]? with
          | none => rw [hli] at hi; cases hi
          | some y =>
            rw [hli] at hi
            simp only [Option.map_some, Option.some.injEq] at hi
            subst hi
            exact hrel _ _ v rfl g3
        · obtain ⟨x, hx, hr⟩ := (hrelL _ _ h4).2 i x' hi
          obtain ⟨v, g1, g2, g3⟩ := k4.cells i x hx
          exact ⟨v, g1, g2, hrel _ _ v hr g3⟩
    · rename_i ho
      exact ⟨none, 0, by simp only [ρ', ho], .inl ⟨rfl, this.1, this.2, rfl⟩⟩
    · exact this.elim
  · intro s s' o o' b c c' h1 h2 h3 h4
    have g1 := okL_look hL s o h1
    have g2 := okL_look hL s' o' h2
    simp only [ρ'] at h3 h4
    split at h3
    · rename_i x hx
      rw [hx] at g1
      obtain ⟨ob, k1, _⟩ := g1
      split at h4
      · rename_i x' hx'
        rw [hx'] at g2
        obtain ⟨ob', k2, _⟩ := g2
        have := s1.inj x x' ob ob' b c c' k1 k2 h3 h4
        subst this
        exact hinj _ _ _ hx hx'
      · cases h4
      · cases h4
    · cases h3
    · cases h3
  · intro s hs
    cases hr : rnAt m s with
    | none => simp only [ρ', hr]
    | some x => have := hlt s x hr; omega
  · intro t
    by_cases ht : t < F'.length
    · obtain ⟨x, h1, h2⟩ := hsl t F'[t] (List.getElem?_eq_getElem ht)
      have := s3 t
      rw [List.getD_eq_getElem?_getD, h1] at this
      rw [List.getD_eq_getElem?_getD, List.getElem?_eq_getElem ht]
      exact hrel _ _ _ h2 this
    · rw [List.getD_eq_getElem?_getD, List.getElem?_eq_none (by omega)]
      unfold RepA
      trivial
theorem exMap (l : List PV) : (∃ k : List PV, List.map AV.p l = List.map AV.p k ∧ List.map AV.p l = List.map AV.p k) = True := by
  simp only [eq_iff_iff, iff_true]
  exact ⟨l, rfl, rfl⟩
theorem exMap2 (l : List PV) : (∃ k : List PV, List.map AV.p l = List.map AV.p k) = True := by
  simp only [eq_iff_iff, iff_true]
  exact ⟨l, rfl⟩
def ctr (t : Nat) (F : List AV) : Nat := match F.getD t .any with
  | .p (.int _ k) => k.toNat
  | _ => 0
end Go.Proofs.YtdaeofhdgabhjaaGreat
namespace Go.Proofs.YtdaeofhdgabhjaaGreat
open Go.RowKit
theorem GD : (∀ {α : Type} (a : α) (l : List α) (n : Nat) (d : α), (a :: l).getD (n + 1) d = l.getD n d) ∧ (∀ {α : Type} (a : α) (l : List α) (d : α), (a :: l).getD 0 d = a) := ⟨fun _ _ _ _ => rfl, fun _ _ _ => rfl⟩
theorem GS : (∀ {α : Type} (a : α) (l : List α) (n : Nat) (d : α), (a :: l).set (n + 1) d = a :: l.set n d) ∧ (∀ {α : Type} (a : α) (l : List α) (d : α), (a :: l).set 0 d = d :: l) ∧ (∀ {α : Type} (a : α) (l m : List α), (a :: l) ++ m = a :: (l ++ m)) ∧ (∀ {α : Type} (m : List α), ([] : List α) ++ m = m) := ⟨fun _ _ _ _ => rfl, fun _ _ _ => rfl, fun _ _ _ => rfl, fun _ => rfl⟩
theorem LA : (∀ {α : Type} {_h : Decidable True} (t e : α), ite True t e = t) ∧ (∀ {α : Type} {_h : Decidable False} (t e : α), ite False t e = e) ∧ (∀ {α : Type} (a : α), (a = a) = True) ∧
    (∀ {α : Type} (a b : α), (some a = some b) = (a = b)) ∧ (∀ {α : Type} {p : α → Prop} {a' : α}, (∃ a, a' = a ∧ p a) ↔ p a') ∧ (∀ {α : Type} {p : α → Prop} {a' : α}, (∃ a, a = a' ∧ p a) ↔ p a') ∧
    (∀ (p : Prop), (True ∧ p) = p) ∧ (∀ (p : Prop), (p ∧ True) = p) ∧ ((false = true) = False) ∧ (∀ n : Nat, n + 0 = n) ∧ (∀ n : Nat, 0 + n = n) ∧
    (∀ {α : Type} {p : α → Prop} {b : Prop}, (∃ x, b ∧ p x) ↔ b ∧ ∃ x, p x) ∧ (∀ {α : Type} {p : α → Prop} {b : Prop}, (∃ x, p x ∧ b) ↔ (∃ x, p x) ∧ b) :=
  ⟨fun {_} {h} _ _ => by cases h <;> simp, fun {_} {h} _ _ => by cases h <;> simp, fun _ => by simp, fun _ _ => by simp, by simp, by simp, by simp, by simp, by simp, by simp, by simp, by simp, by simp⟩
theorem LB : (∀ {α : Type} (a : α) (l : List α), (a :: l)[0]? = some a) ∧ (∀ {α : Type} (a : α) (l : List α) (i : Nat), (a :: l)[i + 1]? = l[i]?) ∧ (∀ {α β : Type} (f : α → β) (a : α) (l : List α), List.map f (a :: l) = f a :: List.map f l) ∧ (∀ {α β : Type} (f : α → β), List.map f [] = []) ∧
    (∀ {α : Type} (a : α) (l : List α), (a :: l).length = l.length + 1) ∧ (∀ {α : Type}, ([] : List α).length = 0) ∧ (∀ {α : Type} (a : α) (l : List α) (i : Nat), List.take (i + 1) (a :: l) = a :: List.take i l) ∧ (∀ {α : Type} (l : List α), List.take 0 l = []) ∧
    (∀ {α : Type} (a : α) (l : List α) (i : Nat), List.drop (i + 1) (a :: l) = List.drop i l) ∧ (∀ {α : Type} (l : List α), List.drop 0 l = l) ∧ (∀ {α : Type} (a : α) (l m : List α), (a :: l) ++ m = a :: (l ++ m)) ∧ (∀ {α : Type} (m : List α), ([] : List α) ++ m = m) ∧
    (∀ {α β : Type} (f : α → β) (a : α), Option.map f (some a) = some (f a)) ∧ (∀ {α β : Type} (f : α → β), Option.map f none = none) ∧ (∀ {α : Type} (i : Nat), List.take i ([] : List α) = []) :=
  ⟨fun _ _ => rfl, fun _ _ _ => rfl, fun _ _ _ => rfl, fun _ => rfl, fun _ _ => rfl, rfl, fun _ _ _ => rfl, fun _ => rfl, fun _ _ _ => rfl, fun _ => rfl, fun _ _ _ => rfl, fun _ => rfl, fun _ _ => rfl, fun _ => rfl, fun i => by simp⟩
theorem LC : (∀ {α : Type} (a : α) (l : List α) (n : Nat) (d : α), (a :: l).set (n + 1) d = a :: l.set n d) ∧ (∀ {α : Type} (a : α) (l : List α) (d : α), (a :: l).set 0 d = d :: l) ∧ (∀ {α : Type} (l : List α) (n : Nat) (d : α), (l.set n d).length = l.length) ∧ (∀ n : Nat, 0 * n = 0) ∧ (∀ n : Nat, 1 * n = n) ∧ (∀ n : Nat, n * 1 = n) ∧ (∀ n : Nat, (n ≤ n) = True) ∧ (∀ {α : Type} (l : List α), l ++ [] = l) ∧ (∀ {α : Type} (a b : α), (a ≠ b) = ¬(a = b)) ∧ ((¬ False) = True) ∧ (∀ (p : Prop), (p ∧ p) = p) ∧ (∀ {α : Type} (a : α), (some a).isSome = true) :=
  ⟨fun _ _ _ _ => rfl, fun _ _ _ => rfl, fun _ _ _ => by simp, by simp, by simp, by simp, by simp, by simp, fun _ _ => rfl, by simp, by simp, fun _ => rfl⟩
theorem LI : (Int.toNat 0 = 0) ∧ (Int.toNat 1 = 1) ∧ (∀ n : Nat, ((n : Int)).toNat = n) ∧ (∀ n : Nat, ((0 : Int) ≤ (n : Int)) = True) ∧ (∀ n : Nat, Int.ofNat n = (n : Int)) :=
  ⟨rfl, rfl, fun _ => by simp, fun _ => by simp, fun _ => rfl⟩
section
variable {P : Program} {N : Nat} {ds : List (Option Nat)} {K : List AV → Sto → Feet → Prop} {o : Oper} {rest : List Oper} {i : Nat} {F F' : List AV} {L L' : Sto} {log : Feet} {r : AV} {R : List Nat} {W : Sto} {j : Nat} {b : Bool} {x : Operand}
theorem st (n i' : Nat) (hg : o.guard = none) (hn : N + i = n) (hi : i + 1 = i') (h1 : AOp P n o (evalA F) (look L) (fun r' R' W' => r' = r ∧ R' = R ∧ W' = W)) (hF : putA F o.dst r = F') (hL : W ++ L = L') (h2 : aops P N ds rest i' F' L' (log ++ [(R, W.map (·.1))]) K) : aops P N ds (o :: rest) i F L log K := aops_step hg hn hi h1 hF hL rfl h2
theorem stg (n i' : Nat) (hg : o.guard = some (j, b)) (hb : gdA ds F j = some (some b)) (hn : N + i = n) (hi : i + 1 = i') (h1 : AOp P n o (evalA F) (look L) (fun r' R' W' => r' = r ∧ R' = R ∧ W' = W)) (hF : putA F o.dst r = F') (hL : W ++ L = L') (h2 : aops P N ds rest i' F' L' (log ++ [(R, W.map (·.1))]) K) : aops P N ds (o :: rest) i F L log K := aops_step_g hg hb hn hi h1 hF hL rfl h2
theorem sp (i' : Nat) (hg : o.guard = none) (hi : i + 1 = i') (h1 : AOp P (N + i) o (evalA F) (look L) (fun r' R' W' => r' = r ∧ R' = R ∧ W' = [])) (hF : putA F o.dst r = F') (h2 : aops P N ds rest i' F' L (log ++ [(R, [])]) K) : aops P N ds (o :: rest) i F L log K := aops_step hg rfl hi h1 hF rfl rfl h2
theorem spg (i' : Nat) (hg : o.guard = some (j, b)) (hb : gdA ds F j = some (some b)) (hi : i + 1 = i') (h1 : AOp P (N + i) o (evalA F) (look L) (fun r' R' W' => r' = r ∧ R' = R ∧ W' = [])) (hF : putA F o.dst r = F') (h2 : aops P N ds rest i' F' L (log ++ [(R, [])]) K) : aops P N ds (o :: rest) i F L log K := aops_step_g hg hb rfl hi h1 hF rfl rfl h2
theorem AOp_mv {n : Nat} {E : Operand → AV} {σ : Nat → Option Ob} {Q : Res} (ho : o.op = .move x ∨ o.op = .assign x) (h : Q (E x) [] []) : AOp P n o E σ Q := by
  unfold AOp
  rcases ho with h | h <;> rw [h]
  · assumption
  · exact Or.inl (by assumption)
theorem mv (i' : Nat) (hg : o.guard = none) (ho : o.op = .move x ∨ o.op = .assign x) (hi : i + 1 = i') (hr : evalA F x = r) (hF : putA F o.dst r = F') (h2 : aops P N ds rest i' F' L (log ++ [([], [])]) K) : aops P N ds (o :: rest) i F L log K := aops_step (R := []) (W := []) hg rfl hi (AOp_mv ho ⟨hr, rfl, rfl⟩) hF rfl rfl h2
end
def an : Nat → List AV → List AV
  | 0, l => l
  | n + 1, l => .any :: an n l
theorem RL : (∀ {α : Type} {_h : Decidable True} (t e : α), ite True t e = t) ∧ (∀ {α : Type} {_h : Decidable False} (t e : α), ite False t e = e) ∧ (∀ {α : Type} (a b : α), (some a = some b) = (a = b)) ∧ (∀ {α : Type} {p : α → Prop} {a' : α}, (∃ a, a' = a ∧ p a) ↔ p a') ∧ (∀ (p : Prop), (True ∧ p) = p) ∧ (∀ (p : Prop), (p ∧ True) = p) ∧ (∀ (p : Prop), (p ∧ p) = p) ∧ (∀ (p : Prop), (p ∨ True) = True) ∧ (∀ (p : Prop), (True ∨ p) = True) ∧ (∀ {α : Type} (a b : α), (a ≠ b) = ¬(a = b)) ∧ ((¬ False) = True) ∧ (∀ {α β : Type} (f : α → β), List.map f [] = []) ∧ (∀ l : List PV, (∃ k : List PV, List.map AV.p l = List.map AV.p k ∧ List.map AV.p l = List.map AV.p k) = True) ∧ (∀ l : List PV, (∃ k : List PV, List.map AV.p l = List.map AV.p k) = True) :=
  ⟨fun {_} {h} _ _ => by cases h <;> simp, fun {_} {h} _ _ => by cases h <;> simp, fun _ _ => by simp, by simp, by simp, by simp, by simp, by simp, by simp, fun _ _ => rfl, by simp, fun _ => rfl, exMap, exMap2⟩
theorem BI : (∀ a b : Bool, ((a && b) = true) = (a = true ∧ b = true)) ∧ (∀ a b : Bool, ((a || b) = true) = (a = true ∨ b = true)) ∧ (∀ a b : Bool, ((a && b) = false) = (a = false ∨ b = false)) ∧ (∀ a b : Bool, ((a || b) = false) = (a = false ∧ b = false)) ∧ (∀ b : Bool, ((!b) = true) = (b = false)) ∧ (∀ b : Bool, ((!b) = false) = (b = true)) ∧ (∀ (p : Prop) [Decidable p], (decide p = true) = p) ∧ (∀ (p : Prop) [Decidable p], (decide p = false) = ¬ p) ∧ (∀ {α : Type} [BEq α] [LawfulBEq α] (a b : α), ((a == b) = true) = (a = b)) ∧ (∀ {α : Type} [BEq α] [LawfulBEq α] (a b : α), ((a == b) = false) = (a ≠ b)) ∧ (∀ {α : Type} [BEq α] [LawfulBEq α] (a b : α), ((a != b) = true) = (a ≠ b)) ∧ (∀ {α : Type} [BEq α] [LawfulBEq α] (a b : α), ((a != b) = false) = (a = b)) :=
  ⟨by simp, by simp, by simp, by simp, by simp, by simp, fun p _ => by simp, fun p _ => by simp, fun a b => by simp, fun a b => by simp, fun a b => by simp, fun a b => by simp⟩
theorem T3 : (tsize Tryz.prog 3 = 1) ∧ (tagg Tryz.prog 3 = false) ∧ (tok Tryz.prog 3 = true) ∧ ((Tryz.prog.info? 3).isSome = true) ∧ ((Tryz.prog.underlying 3).isSome = true) ∧ (tint Tryz.prog 3 = some .i64) ∧ (tzero Tryz.prog 3 = some [.p (.int .i64 0)]) ∧ (tzone Tryz.prog 3 = true) ∧ (tapp Tryz.prog 3 = true) := ⟨T3_size, T3_agg, T3_tok, T3_info, T3_und, T3_int, T3_zero, T3_zone, T3_app⟩
theorem T23 : (tsize Tryz.prog 23 = 1) ∧ (tagg Tryz.prog 23 = false) ∧ (tok Tryz.prog 23 = true) ∧ ((Tryz.prog.info? 23).isSome = true) ∧ ((Tryz.prog.underlying 23).isSome = true) ∧ (telem Tryz.prog 23 = some 44) ∧ (tzero Tryz.prog 23 = some [.nil]) ∧ (tzone Tryz.prog 23 = true) ∧ (tapp Tryz.prog 23 = true) := ⟨T23_size, T23_agg, T23_tok, T23_info, T23_und, T23_elem, T23_zero, T23_zone, T23_app⟩
theorem T24 : (tsize Tryz.prog 24 = 1) ∧ (tagg Tryz.prog 24 = false) ∧ (tok Tryz.prog 24 = true) ∧ ((Tryz.prog.info? 24).isSome = true) ∧ ((Tryz.prog.underlying 24).isSome = true) ∧ (telem Tryz.prog 24 = some 23) ∧ (tzero Tryz.prog 24 = some [.nil]) ∧ (tzone Tryz.prog 24 = true) ∧ (tapp Tryz.prog 24 = true) := ⟨T24_size, T24_agg, T24_tok, T24_info, T24_und, T24_elem, T24_zero, T24_zone, T24_app⟩
theorem T26 : (tsize Tryz.prog 26 = 2) ∧ (tagg Tryz.prog 26 = true) ∧ (tok Tryz.prog 26 = true) ∧ ((Tryz.prog.info? 26).isSome = true) ∧ ((Tryz.prog.underlying 26).isSome = true) ∧ (places Tryz.prog 26 0 = some (0, 1)) ∧ (foff Tryz.prog 26 0 = some (0, 23)) ∧ (places Tryz.prog 26 1 = some (1, 1)) ∧ (foff Tryz.prog 26 1 = some (1, 24)) ∧ (partsOk Tryz.prog 26 = true) ∧ (tzero Tryz.prog 26 = some [.nil, .nil]) ∧ (tzone Tryz.prog 26 = true) ∧ (tapp Tryz.prog 26 = true) := ⟨T26_size, T26_agg, T26_tok, T26_info, T26_und, T26_p0, T26_f0, T26_p1, T26_f1, T26_parts, T26_zero, T26_zone, T26_app⟩
theorem T32 : (tsize Tryz.prog 32 = 1) ∧ (tagg Tryz.prog 32 = false) ∧ (tok Tryz.prog 32 = true) ∧ ((Tryz.prog.info? 32).isSome = true) ∧ ((Tryz.prog.underlying 32).isSome = true) ∧ (telem Tryz.prog 32 = some 46) ∧ (tzero Tryz.prog 32 = some [.nil]) ∧ (tzone Tryz.prog 32 = true) ∧ (tapp Tryz.prog 32 = true) := ⟨T32_size, T32_agg, T32_tok, T32_info, T32_und, T32_elem, T32_zero, T32_zone, T32_app⟩
theorem T44 : (tsize Tryz.prog 44 = 2) ∧ (tagg Tryz.prog 44 = true) ∧ (tok Tryz.prog 44 = true) ∧ ((Tryz.prog.info? 44).isSome = true) ∧ ((Tryz.prog.underlying 44).isSome = true) ∧ (places Tryz.prog 44 0 = some (0, 1)) ∧ (foff Tryz.prog 44 0 = some (0, 3)) ∧ (places Tryz.prog 44 1 = some (1, 1)) ∧ (foff Tryz.prog 44 1 = some (1, 3)) ∧ (partsOk Tryz.prog 44 = true) ∧ (tzero Tryz.prog 44 = some [.p (.int .i64 0), .p (.int .i64 0)]) ∧ (tzone Tryz.prog 44 = true) ∧ (tapp Tryz.prog 44 = true) := ⟨T44_size, T44_agg, T44_tok, T44_info, T44_und, T44_p0, T44_f0, T44_p1, T44_f1, T44_parts, T44_zero, T44_zone, T44_app⟩
theorem T46 : (tsize Tryz.prog 46 = 4) ∧ (tagg Tryz.prog 46 = true) ∧ (tok Tryz.prog 46 = true) ∧ ((Tryz.prog.info? 46).isSome = true) ∧ ((Tryz.prog.underlying 46).isSome = true) ∧ (places Tryz.prog 46 0 = some (0, 2)) ∧ (foff Tryz.prog 46 0 = some (0, 44)) ∧ (places Tryz.prog 46 1 = some (2, 2)) ∧ (foff Tryz.prog 46 1 = some (2, 44)) ∧ (partsOk Tryz.prog 46 = true) ∧ (tzero Tryz.prog 46 = some [.p (.int .i64 0), .p (.int .i64 0), .p (.int .i64 0), .p (.int .i64 0)]) ∧ (tzone Tryz.prog 46 = true) ∧ (tapp Tryz.prog 46 = true) := ⟨T46_size, T46_agg, T46_tok, T46_info, T46_und, T46_p0, T46_f0, T46_p1, T46_f1, T46_parts, T46_zero, T46_zone, T46_app⟩
theorem T65 : (tsize Tryz.prog 65 = 1) ∧ (tagg Tryz.prog 65 = false) ∧ (tok Tryz.prog 65 = true) ∧ ((Tryz.prog.info? 65).isSome = true) ∧ ((Tryz.prog.underlying 65).isSome = true) ∧ (telem Tryz.prog 65 = some 67) ∧ (tzero Tryz.prog 65 = some [.nil]) ∧ (tzone Tryz.prog 65 = true) ∧ (tapp Tryz.prog 65 = true) := ⟨T65_size, T65_agg, T65_tok, T65_info, T65_und, T65_elem, T65_zero, T65_zone, T65_app⟩
theorem T67 : (tsize Tryz.prog 67 = 2) ∧ (tagg Tryz.prog 67 = true) ∧ (tok Tryz.prog 67 = true) ∧ ((Tryz.prog.info? 67).isSome = true) ∧ ((Tryz.prog.underlying 67).isSome = true) ∧ (tarr Tryz.prog 67 = some (2, 3)) ∧ (places Tryz.prog 67 0 = some (0, 1)) ∧ (places Tryz.prog 67 1 = some (1, 1)) ∧ (partsOk Tryz.prog 67 = true) ∧ (tzero Tryz.prog 67 = some [.p (.int .i64 0), .p (.int .i64 0)]) ∧ (tzone Tryz.prog 67 = true) ∧ (tapp Tryz.prog 67 = true) := ⟨T67_size, T67_agg, T67_tok, T67_info, T67_und, T67_arr, T67_p0, T67_p1, T67_parts, T67_zero, T67_zone, T67_app⟩
end Go.Proofs.YtdaeofhdgabhjaaGreat
namespace Go.Proofs.YtdaeofhdgabhjaaGreat
open Go.RowKit
theorem ret_int {k : IntKind} {a b : Int} (h : a = b) : Ending.returned (.int k a) = .returned (.int k b) := by rw [h]
theorem isNaN_any (x : Int) (w : World) : Calls Tryz.prog 184 #[.int .i64 x] w fun e w' => e = .returned (.bool false) ∧ w = w' := by
  go_enter Tryz.func184, Tryz.ntmps184
  go_wp2
  go_ret
  exact ⟨rfl, rfl⟩
def cmpI (x y : Int) : Int := if x < y then -1 else if y < x then 1 else 0
theorem cmpI_lt {x y : Int} (h : x < y) : cmpI x y = -1 := if_pos h
theorem cmpI_gt {x y : Int} (h : y < x) : cmpI x y = 1 := by unfold cmpI; rw [if_neg (by omega), if_pos h]
theorem cmpI_eq {x y : Int} (h : x = y) : cmpI x y = 0 := by unfold cmpI; rw [if_neg (by omega), if_neg (by omega)]
theorem cmp_any (x y : Int) (w : World) : Calls Tryz.prog 137 #[.int .i64 x, .int .i64 y] w fun e w' => e = .returned (.int .i64 (cmpI x y)) ∧ w = w' := by
  go_enter Tryz.func137, Tryz.ntmps137
  go_wp2_with (go_at_call 184; refine (isNaN_any _ _).mono ?_; rintro e w' ⟨rfl, rfl⟩)
  · have h : x < y := by assumption
    go_ret
    exact ⟨ret_int (cmpI_lt h).symm, rfl⟩
  · have h : y < x := by assumption
    go_ret
    exact ⟨ret_int (cmpI_gt h).symm, rfl⟩
  · go_ret
    exact ⟨ret_int (cmpI_eq (by omega)).symm, rfl⟩
def crossW (ax ay bx b_y : Int) : Int := wrap64 (ax * b_y - ay * bx)
def turnW (ax ay bx b_y cx cy : Int) : Int := cmpI (crossW (wrap64 (bx - ax)) (wrap64 (b_y - ay)) (wrap64 (cx - ax)) (wrap64 (cy - ay))) 0
def withinW (x y m : Int) : Bool := decide (-m ≤ x) && decide (x ≤ m) && decide (-m ≤ y) && decide (y ≤ m)
def orI (p q : Int) : Int := if p = 0 then q else p
set_option maxHeartbeats 400000 in
theorem or_any (p q : Int) (b : Nat) (w : World) (h0 : w.cell? ⟨b, 0, none⟩ = some (.int .i64 p)) (h1 : w.cell? ⟨b, 1, none⟩ = some (.int .i64 q)) :
    Calls Tryz.prog 148 #[.slice (some ⟨b, 0, none⟩) 2 2] w fun e w' => e = .returned (.int .i64 (orI p q)) ∧ w = w' := by
  by_cases hp : p = 0
  · subst hp
    by_cases hq : q = 0
    · subst hq
      go_enter Tryz.func148, Tryz.ntmps148
      go_wp2
      go_loop [5, 8] (fun _ i => ∃ k : Nat, k ≤ 2 ∧ i = .int .i64 k) (fun _ i => 2 - (intOf i).toNat)
      case atStart => exact ⟨0, by omega, rfl⟩
      case round =>
        obtain ⟨k, hk, rfl⟩ := hrel
        match k, hk with
        | 0, _ =>
          go_wp2
          go_round
          case rel => exact ⟨1, by omega, by go_num⟩
          case measure => simp [intOf]
        | 1, _ =>
          go_wp2
          go_round
          case rel => exact ⟨2, by omega, by go_num⟩
          case measure => simp [intOf]
        | 2, _ =>
          go_wp2
          go_ret
          exact ⟨rfl, rfl⟩
    · have hq1 : (q != 0) = true := by simpa using hq
      go_enter Tryz.func148, Tryz.ntmps148
      go_wp2
      go_loop [5, 8] (fun _ i => ∃ k : Nat, k ≤ 1 ∧ i = .int .i64 k) (fun _ i => 2 - (intOf i).toNat)
      case atStart => exact ⟨0, by omega, rfl⟩
      case round =>
        obtain ⟨k, hk, rfl⟩ := hrel
        match k, hk with
        | 0, _ =>
          go_wp2
          go_round
          case rel => exact ⟨1, by omega, by go_num⟩
          case measure => simp [intOf]
        | 1, _ =>
          go_wp2
          go_ret
          exact ⟨rfl, rfl⟩
  · have hp1 : (p != 0) = true := by simpa using hp
    go_enter Tryz.func148, Tryz.ntmps148
    go_wp2
    go_loop [5, 8] (fun _ i => i = .int .i64 0) (fun _ i => 2 - (intOf i).toNat)
    case atStart => rfl
    case round =>
      subst hrel
      go_wp2
      go_ret
      exact ⟨ret_int (by unfold orI; rw [if_neg hp]), rfl⟩
def cmpVW (ax ay bx b_y : Int) : Int := orI (cmpI ay b_y) (cmpI ax bx)
end Go.Proofs.YtdaeofhdgabhjaaGreat
namespace Go.Proofs.YtdaeofhdgabhjaaGreat
open Go.RowKit
def rlessW (ax ay bx b_y : Int) : Bool := decide (ay < b_y) || (ay == b_y && decide (ax < bx))
theorem eqVec (ax ay bx b_y : Int) (w : World) : Sem.run Tryz.prog (binOp .eql 44 (.agg #[.int .i64 ax, .int .i64 ay]) (.agg #[.int .i64 bx, .int .i64 b_y])) w = .ok (.bool (ax == bx && ay == b_y)) w := by
  have u3 := Tryz.underlying3
  have a3 := Tryz.isAgg3
  have z3 := Tryz.sizeOf3
  have hS : Tryz.prog.underlying 44 = some (.struct (Tryz.prog.fieldsOf 44)) := by kernel_rfl
  have hp : Tryz.prog.stoodInHeld 44 = false := by kernel_rfl
  rw [run_eql_struct, show (10000 : Nat) = 9999 + 1 from rfl, run_equalIn_agg w 9999 44 _ _ hS hp]
  simp only [Program.fieldsOf, Tryz.underlying44]
  go_simp
  by_cases h1 : ax = bx <;> by_cases h2 : ay = b_y <;> simp [h1, h2]
end Go.Proofs.YtdaeofhdgabhjaaGreat
namespace Go.Proofs.YtdaeofhdgabhjaaGreat.Geo
structure V where
  x : Int
  y : Int
deriving DecidableEq, Inhabited
structure S where
  a : V
  b : V
deriving DecidableEq, Inhabited
def sub (p q : V) : V := ⟨p.x - q.x, p.y - q.y⟩
def cross (p q : V) : Int := p.x * q.y - p.y * q.x
def sgn (n : Int) : Int := if 0 < n then 1 else if n < 0 then -1 else 0
def turn (a b c : V) : Int := sgn (cross (sub b a) (sub c a))
def lessV (p q : V) : Bool := decide (p.y < q.y) || (p.y == q.y && decide (p.x < q.x))
def within (p : V) (m : Int) : Bool := decide (-m ≤ p.x) && decide (p.x ≤ m) && decide (-m ≤ p.y) && decide (p.y ≤ m)
def validS (s : S) : Bool := within s.a 4000 && within s.b 4000
def inBox (s : S) (p : V) : Bool := decide (min s.a.x s.b.x ≤ p.x) && decide (p.x ≤ max s.a.x s.b.x) && decide (min s.a.y s.b.y ≤ p.y) && decide (p.y ≤ max s.a.y s.b.y)
def onS (s : S) (p : V) : Bool := validS s && inBox s p && turn s.a s.b p == 0
theorem sgn_zero (n : Int) : sgn n = 0 ↔ n = 0 := by unfold sgn; grind
theorem sgn_pos (n : Int) : 0 < sgn n ↔ 0 < n := by unfold sgn; grind
theorem sgn_neg (n : Int) : sgn n < 0 ↔ n < 0 := by unfold sgn; grind
theorem sgn_mul_neg (m n : Int) : sgn m * sgn n < 0 ↔ (0 < m ∧ n < 0) ∨ (m < 0 ∧ 0 < n) := by unfold sgn; grind
def cmpI (x y : Int) : Int := if x < y then -1 else if y < x then 1 else 0
def cmpV (p q : V) : Int := if cmpI p.y q.y = 0 then cmpI p.x q.x else cmpI p.y q.y
def linesK (s t : S) (d : Int) : Int :=
  let a0 := cross (sub t.a s.a) (sub t.b t.a)
  let b0 := cross (sub t.a s.a) (sub s.b s.a)
  let a := if d < 0 then -a0 else a0
  let b := if d < 0 then -b0 else b0
  let e := if d < 0 then -d else d
  if a < 0 ∨ e < a ∨ b < 0 ∨ e < b then 0 else if a = 0 ∨ a = e ∨ b = 0 ∨ b = e then 1 else 2
def loS (s : S) : V := if lessV s.b s.a then s.b else s.a
def hiS (s : S) : V := if lessV s.b s.a then s.a else s.b
def shareLo (s t : S) : V := if lessV (loS s) (loS t) then loS t else loS s
def shareHi (s t : S) : V := if lessV (hiS t) (hiS s) then hiS t else hiS s
def meetP (s t : S) : Int :=
  if !(validS s && validS t) then 0
  else if cross (sub s.b s.a) (sub t.b t.a) ≠ 0 then linesK s t (cross (sub s.b s.a) (sub t.b t.a))
  else if s.a = s.b ∧ onS t s.a = true then 1
  else if t.a = t.b ∧ onS s t.a = true then 1
  else if s.a = s.b ∨ t.a = t.b ∨ turn s.a s.b t.a ≠ 0 then 0
  else if cmpV (shareLo s t) (shareHi s t) = 0 then 1
  else if cmpV (shareLo s t) (shareHi s t) = -1 then 3
  else 0
def onBoth (s t : S) (p : V) : Prop := onS s p = true ∧ onS t p = true
structure MeetIs (s t : S) (k : Int) : Prop where
  none : (validS s && validS t) = false → k = 0
  over : ∀ p q, p ∈ [s.a, s.b, t.a, t.b] → q ∈ [s.a, s.b, t.a, t.b] → p ≠ q → onBoth s t p → onBoth s t q → k = 3
  touch : (validS s && validS t) = true → (∀ p q, p ∈ [s.a, s.b, t.a, t.b] → q ∈ [s.a, s.b, t.a, t.b] → onBoth s t p → onBoth s t q → p = q) → (∃ p, p ∈ [s.a, s.b, t.a, t.b] ∧ onBoth s t p) → k = 1
  cross : (validS s && validS t) = true → (∀ p, p ∈ [s.a, s.b, t.a, t.b] → ¬ onBoth s t p) → (turn s.a s.b t.a * turn s.a s.b t.b < 0 ∧ turn t.a t.b s.a * turn t.a t.b s.b < 0) → k = 2
  else_ : (validS s && validS t) = true → (∀ p, p ∈ [s.a, s.b, t.a, t.b] → ¬ onBoth s t p) → ¬ (turn s.a s.b t.a * turn s.a s.b t.b < 0 ∧ turn t.a t.b s.a * turn t.a t.b s.b < 0) → k = 0
theorem between (d b v w : Int) (hd : 0 < d) (h : d * w = b * v) (hv : v ≠ 0) : (min 0 v ≤ w ∧ w ≤ max 0 v) ↔ (0 ≤ b ∧ b ≤ d) := by
  rcases Int.lt_or_gt_of_ne hv with hv | hv
  · have e1 : w ≤ 0 ↔ 0 ≤ b := by
      rw [← Int.mul_le_mul_left hd, Int.mul_zero, h]
      constructor
      · intro h1
        rcases Int.lt_or_le b 0 with h2 | h2
        · have := Int.mul_pos_of_neg_of_neg h2 hv; omega
        · exact h2
      · intro h1; have := Int.mul_nonneg h1 (show (0:Int) ≤ -v by omega); rw [Int.mul_neg] at this; omega
    have e2 : v ≤ w ↔ b ≤ d := by
      rw [← Int.mul_le_mul_left hd, h]
      constructor
      · intro h1
        rcases Int.lt_or_le d b with h2 | h2
        · have := Int.mul_lt_mul_of_neg_right h2 hv; omega
        · exact h2
      · intro h1; exact Int.mul_le_mul_of_nonpos_right h1 (by omega)
    omega
  · have e1 : 0 ≤ w ↔ 0 ≤ b := by
      rw [← Int.mul_le_mul_left hd, Int.mul_zero, h]
      constructor
      · intro h1
        rcases Int.lt_or_le b 0 with h2 | h2
        · have := Int.mul_neg_of_neg_of_pos h2 hv; omega
        · exact h2
      · intro h1; exact Int.mul_nonneg h1 (by omega)
    have e2 : w ≤ v ↔ b ≤ d := by
      rw [← Int.mul_le_mul_left hd, h]
      exact Int.mul_le_mul_right hv
    omega
theorem box_iff (s : S) (p : V) (d b : Int) (hd : 0 < d) (hx : d * (p.x - s.a.x) = b * (s.b.x - s.a.x)) (hy : d * (p.y - s.a.y) = b * (s.b.y - s.a.y)) (hv : s.a ≠ s.b) :
    inBox s p = true ↔ (0 ≤ b ∧ b ≤ d) := by
  obtain ⟨⟨ax, ay⟩, ⟨bx, b_y⟩⟩ := s
  obtain ⟨px, py⟩ := p
  simp only [inBox, Bool.and_eq_true, decide_eq_true_eq] at *
  simp only [ne_eq, V.mk.injEq, not_and] at hv
  by_cases h1 : bx - ax = 0
  · have h2 : b_y - ay ≠ 0 := by
      intro h2; exact hv (by omega) (by omega)
    rw [h1, Int.mul_zero] at hx
    have h3 : px - ax = 0 := by
      rcases Int.mul_eq_zero.1 hx with h | h
      · omega
      · exact h
    have := between d b _ _ hd hy h2
    omega
  · by_cases h2 : b_y - ay = 0
    · rw [h2, Int.mul_zero] at hy
      have h3 : py - ay = 0 := by
        rcases Int.mul_eq_zero.1 hy with h | h
        · omega
        · exact h
      have := between d b _ _ hd hx h1
      omega
    · have e1 := between d b _ _ hd hx h1
      have e2 := between d b _ _ hd hy h2
      omega
theorem onS_iff {s : S} {p : V} (hv : validS s = true) : onS s p = true ↔ (inBox s p = true ∧ cross (sub s.b s.a) (sub p s.a) = 0) := by
  unfold onS turn
  rw [hv]
  simp only [Bool.true_and, Bool.and_eq_true, beq_iff_eq, sgn_zero]
theorem onS_a {s : S} (hv : validS s = true) : onS s s.a = true := by
  rw [onS_iff hv]
  refine ⟨?_, by simp [cross, sub]⟩
  simp [inBox]; omega
theorem onS_b {s : S} (hv : validS s = true) : onS s s.b = true := by
  rw [onS_iff hv]
  refine ⟨?_, by simp only [cross, sub]; grind⟩
  simp [inBox]; omega
theorem q1 {d a b sa sb ta tb : Int} (h : d * (ta - sa) = a * (sb - sa) - b * (tb - ta)) (e : a = 0) : d * (sa - ta) = b * (tb - ta) := by subst e; grind
theorem q2 {d a b sa sb ta tb : Int} (h : d * (ta - sa) = a * (sb - sa) - b * (tb - ta)) (e : a = d) : d * (sb - ta) = b * (tb - ta) := by subst e; grind
theorem q3 {d a b sa sb ta tb : Int} (h : d * (ta - sa) = a * (sb - sa) - b * (tb - ta)) (e : b = 0) : d * (ta - sa) = a * (sb - sa) := by subst e; grind
theorem q4 {d a b sa sb ta tb : Int} (h : d * (ta - sa) = a * (sb - sa) - b * (tb - ta)) (e : b = d) : d * (tb - sa) = a * (sb - sa) := by subst e; grind
theorem z13 {d a b sa sb ta tb : Int} (h : d * (ta - sa) = a * (sb - sa) - b * (tb - ta)) (e : a = 0) (f : b = 0) : d * (ta - sa) = 0 := by subst e f; grind
theorem z14 {d a b sa sb ta tb : Int} (h : d * (ta - sa) = a * (sb - sa) - b * (tb - ta)) (e : a = 0) (f : b = d) : d * (tb - sa) = 0 := by subst e f; grind
theorem z23 {d a b sa sb ta tb : Int} (h : d * (ta - sa) = a * (sb - sa) - b * (tb - ta)) (e : a = d) (f : b = 0) : d * (ta - sb) = 0 := by subst e f; grind
theorem z24 {d a b sa sb ta tb : Int} (h : d * (ta - sa) = a * (sb - sa) - b * (tb - ta)) (e : a = d) (f : b = d) : d * (tb - sb) = 0 := by subst e f; grind
theorem lines_is (s t : S) (hs : validS s = true) (ht : validS t = true) (hd : cross (sub s.b s.a) (sub t.b t.a) ≠ 0) :
    MeetIs s t (linesK s t (cross (sub s.b s.a) (sub t.b t.a))) := by
  have hsab : s.a ≠ s.b := by intro h; apply hd; rw [h]; simp [cross, sub]
  have htab : t.a ≠ t.b := by intro h; apply hd; rw [h]; simp [cross, sub]
  obtain ⟨a0, ha0⟩ : ∃ a, a = cross (sub t.a s.a) (sub t.b t.a) := ⟨_, rfl⟩
  obtain ⟨b0, hb0⟩ : ∃ a, a = cross (sub t.a s.a) (sub s.b s.a) := ⟨_, rfl⟩
  obtain ⟨d0, hd0⟩ : ∃ a, a = cross (sub s.b s.a) (sub t.b t.a) := ⟨_, rfl⟩
  have f1 : cross (sub t.b t.a) (sub s.a t.a) = a0 := by rw [ha0]; simp only [cross, sub]; grind
  have f2 : cross (sub t.b t.a) (sub s.b t.a) = a0 - d0 := by rw [ha0, hd0]; simp only [cross, sub]; grind
  have f3 : cross (sub s.b s.a) (sub t.a s.a) = -b0 := by rw [hb0]; simp only [cross, sub]; grind
  have f4 : cross (sub s.b s.a) (sub t.b s.a) = d0 - b0 := by rw [hb0, hd0]; simp only [cross, sub]; grind
  have gx : d0 * (t.a.x - s.a.x) = a0 * (s.b.x - s.a.x) - b0 * (t.b.x - t.a.x) := by rw [ha0, hb0, hd0]; simp only [cross, sub]; grind
  have gy : d0 * (t.a.y - s.a.y) = a0 * (s.b.y - s.a.y) - b0 * (t.b.y - t.a.y) := by rw [ha0, hb0, hd0]; simp only [cross, sub]; grind
  rw [← hd0] at hd
  obtain ⟨a, b, d, hdp, hx, hy, hab⟩ : ∃ a b d : Int, 0 < d ∧ d * (t.a.x - s.a.x) = a * (s.b.x - s.a.x) - b * (t.b.x - t.a.x) ∧ d * (t.a.y - s.a.y) = a * (s.b.y - s.a.y) - b * (t.b.y - t.a.y) ∧ ((d0 < 0 ∧ a = -a0 ∧ b = -b0 ∧ d = -d0) ∨ (¬ d0 < 0 ∧ a = a0 ∧ b = b0 ∧ d = d0)) := by
    by_cases h : d0 < 0
    · exact ⟨-a0, -b0, -d0, by omega, by simp only [Int.neg_mul]; omega, by simp only [Int.neg_mul]; omega, .inl ⟨h, rfl, rfl, rfl⟩⟩
    · exact ⟨a0, b0, d0, by omega, gx, gy, .inr ⟨h, rfl, rfl, rfl⟩⟩
  have hK : linesK s t d0 = if a < 0 ∨ d < a ∨ b < 0 ∨ d < b then 0 else if a = 0 ∨ a = d ∨ b = 0 ∨ b = d then 1 else 2 := by
    unfold linesK
    simp only [← ha0, ← hb0]
    rcases hab with ⟨h, rfl, rfl, rfl⟩ | ⟨h, rfl, rfl, rfl⟩ <;> simp only [h, if_true, if_false]
  have c1 : onBoth s t s.a ↔ (a = 0 ∧ 0 ≤ b ∧ b ≤ d) := by
    unfold onBoth
    rw [onS_iff ht, f1]
    have e : a0 = 0 ↔ a = 0 := by clear gx gy hx hy; omega
    rw [e]
    constructor
    · rintro ⟨_, h1, h2⟩
      exact ⟨h2, (box_iff t s.a d b hdp (q1 hx h2) (q1 hy h2) htab).1 h1⟩
    · rintro ⟨h2, h3⟩
      exact ⟨onS_a hs, (box_iff t s.a d b hdp (q1 hx h2) (q1 hy h2) htab).2 h3, h2⟩
  have c2 : onBoth s t s.b ↔ (a = d ∧ 0 ≤ b ∧ b ≤ d) := by
    unfold onBoth
    rw [onS_iff ht, f2]
    have e : a0 - d0 = 0 ↔ a = d := by clear gx gy hx hy; omega
    rw [e]
    constructor
    · rintro ⟨_, h1, h2⟩
      exact ⟨h2, (box_iff t s.b d b hdp (q2 hx h2) (q2 hy h2) htab).1 h1⟩
    · rintro ⟨h2, h3⟩
      exact ⟨onS_b hs, (box_iff t s.b d b hdp (q2 hx h2) (q2 hy h2) htab).2 h3, h2⟩
  have c3 : onBoth s t t.a ↔ (b = 0 ∧ 0 ≤ a ∧ a ≤ d) := by
    unfold onBoth
    rw [onS_iff hs, f3]
    have e : -b0 = 0 ↔ b = 0 := by clear gx gy hx hy; omega
    rw [e]
    constructor
    · rintro ⟨⟨h1, h2⟩, _⟩
      exact ⟨h2, (box_iff s t.a d a hdp (q3 hx h2) (q3 hy h2) hsab).1 h1⟩
    · rintro ⟨h2, h3⟩
      exact ⟨⟨(box_iff s t.a d a hdp (q3 hx h2) (q3 hy h2) hsab).2 h3, h2⟩, onS_a ht⟩
  have c4 : onBoth s t t.b ↔ (b = d ∧ 0 ≤ a ∧ a ≤ d) := by
    unfold onBoth
    rw [onS_iff hs, f4]
    have e : d0 - b0 = 0 ↔ b = d := by clear gx gy hx hy; omega
    rw [e]
    constructor
    · rintro ⟨⟨h1, h2⟩, _⟩
      exact ⟨h2, (box_iff s t.b d a hdp (q4 hx h2) (q4 hy h2) hsab).1 h1⟩
    · rintro ⟨h2, h3⟩
      exact ⟨⟨(box_iff s t.b d a hdp (q4 hx h2) (q4 hy h2) hsab).2 h3, h2⟩, onS_b ht⟩
  have hT : (turn s.a s.b t.a * turn s.a s.b t.b < 0 ∧ turn t.a t.b s.a * turn t.a t.b s.b < 0) ↔ (0 < a ∧ a < d ∧ 0 < b ∧ b < d) := by
    unfold turn
    rw [sgn_mul_neg, sgn_mul_neg, f1, f2, f3, f4]
    clear hx hy gx gy c1 c2 c3 c4 f1 f2 f3 f4 hK ha0 hb0 hd0
    rcases hab with ⟨h, rfl, rfl, rfl⟩ | ⟨h, rfl, rfl, rfl⟩
    · constructor
      · rintro ⟨h1 | h1, h2 | h2⟩ <;> omega
      · rintro ⟨h1, h2, h3, h4⟩; exact ⟨.inl (by omega), .inr (by omega)⟩
    · constructor
      · rintro ⟨h1 | h1, h2 | h2⟩ <;> omega
      · rintro ⟨h1, h2, h3, h4⟩; exact ⟨.inr (by omega), .inl (by omega)⟩
  rw [← hd0, hK]
  clear ha0 hb0 gx gy
  clear hK f1 f2 f3 f4
  have hone : ∀ p q, p ∈ [s.a, s.b, t.a, t.b] → q ∈ [s.a, s.b, t.a, t.b] → onBoth s t p → onBoth s t q → p = q := by
    have zz : ∀ x : Int, d * x = 0 → x = 0 := fun x h => by rcases Int.mul_eq_zero.1 h with h | h <;> omega
    have e13 : onBoth s t s.a → onBoth s t t.a → s.a = t.a := by
      rw [c1, c3]; rintro ⟨h1, _⟩ ⟨h2, _⟩
      have h3 := zz _ (z13 hx h1 h2)
      have h4 := zz _ (z13 hy h1 h2)
      cases hsa : s.a; cases hta : t.a; simp only [hsa, hta] at h3 h4; simp; omega
    have e14 : onBoth s t s.a → onBoth s t t.b → s.a = t.b := by
      rw [c1, c4]; rintro ⟨h1, _⟩ ⟨h2, _⟩
      have h3 := zz _ (z14 hx h1 h2)
      have h4 := zz _ (z14 hy h1 h2)
      cases hsa : s.a; cases hta : t.b; simp only [hsa, hta] at h3 h4; simp; omega
    have e23 : onBoth s t s.b → onBoth s t t.a → s.b = t.a := by
      rw [c2, c3]; rintro ⟨h1, _⟩ ⟨h2, _⟩
      have h3 := zz _ (z23 hx h1 h2)
      have h4 := zz _ (z23 hy h1 h2)
      cases hsa : s.b; cases hta : t.a; simp only [hsa, hta] at h3 h4; simp; omega
    have e24 : onBoth s t s.b → onBoth s t t.b → s.b = t.b := by
      rw [c2, c4]; rintro ⟨h1, _⟩ ⟨h2, _⟩
      have h3 := zz _ (z24 hx h1 h2)
      have h4 := zz _ (z24 hy h1 h2)
      cases hsa : s.b; cases hta : t.b; simp only [hsa, hta] at h3 h4; simp; omega
    have e12 : onBoth s t s.a → onBoth s t s.b → False := by rw [c1, c2]; clear hx hy; omega
    have e34 : onBoth s t t.a → onBoth s t t.b → False := by rw [c3, c4]; clear hx hy; omega
    intro p q hp hq h1 h2
    simp only [List.mem_cons, List.not_mem_nil, or_false] at hp hq
    rcases hp with rfl | rfl | rfl | rfl <;> rcases hq with rfl | rfl | rfl | rfl
    · rfl
    · exact (e12 h1 h2).elim
    · exact e13 h1 h2
    · exact e14 h1 h2
    · exact (e12 h2 h1).elim
    · rfl
    · exact e23 h1 h2
    · exact e24 h1 h2
    · exact (e13 h2 h1).symm
    · exact (e23 h2 h1).symm
    · rfl
    · exact (e34 h1 h2).elim
    · exact (e14 h2 h1).symm
    · exact (e24 h2 h1).symm
    · exact (e34 h2 h1).elim
    · rfl
  clear hx hy hd0 hab hd
  have hno : (∀ p, p ∈ [s.a, s.b, t.a, t.b] → ¬ onBoth s t p) → ¬ onBoth s t s.a ∧ ¬ onBoth s t s.b ∧ ¬ onBoth s t t.a ∧ ¬ onBoth s t t.b :=
    fun h => ⟨h _ (by simp), h _ (by simp), h _ (by simp), h _ (by simp)⟩
  constructor
  · intro h; rw [hs, ht] at h; cases h
  · intro p q hp hq hne h1 h2; exact absurd (hone p q hp hq h1 h2) hne
  · rintro _ _ ⟨p, hp, h⟩
    simp only [List.mem_cons, List.not_mem_nil, or_false] at hp
    rcases hp with rfl | rfl | rfl | rfl
    · rw [c1] at h; rw [if_neg (by omega), if_pos (by omega)]
    · rw [c2] at h; rw [if_neg (by omega), if_pos (by omega)]
    · rw [c3] at h; rw [if_neg (by omega), if_pos (by omega)]
    · rw [c4] at h; rw [if_neg (by omega), if_pos (by omega)]
  · intro _ _ h
    rw [hT] at h
    rw [if_neg (by omega), if_neg (by omega)]
  · intro _ h1 h
    rw [hT] at h
    have h2 := hno h1
    rw [c1, c2, c3, c4] at h2
    by_cases h3 : a < 0 ∨ d < a ∨ b < 0 ∨ d < b
    · rw [if_pos h3]
    · exfalso; omega
def leV (p q : V) : Prop := p.y < q.y ∨ (p.y = q.y ∧ p.x ≤ q.x)
instance (p q : V) : Decidable (leV p q) := by unfold leV; infer_instance
theorem leV_refl (p : V) : leV p p := .inr ⟨rfl, Int.le_refl _⟩
theorem leV_trans {p q r : V} (h1 : leV p q) (h2 : leV q r) : leV p r := by unfold leV at *; omega
theorem leV_anti {p q : V} (h1 : leV p q) (h2 : leV q p) : p = q := by
  cases p; cases q; unfold leV at *; simp only [V.mk.injEq]; simp only at h1 h2; omega
theorem leV_total (p q : V) : leV p q ∨ leV q p := by unfold leV; omega
theorem lessV_iff (p q : V) : lessV p q = true ↔ ¬ leV q p := by unfold lessV leV; simp; omega
theorem lessV_false (p q : V) : lessV p q = false ↔ leV q p := by
  rw [← Bool.not_eq_true, lessV_iff]; exact Decidable.not_not
theorem cmpV_zero (p q : V) : cmpV p q = 0 ↔ p = q := by
  cases p; cases q; unfold cmpV cmpI; simp only [V.mk.injEq]; grind
theorem cmpV_neg (p q : V) : cmpV p q = -1 ↔ lessV p q = true := by
  unfold cmpV cmpI lessV; simp only [Bool.or_eq_true, Bool.and_eq_true, decide_eq_true_eq, beq_iff_eq]; grind
theorem cmpV_lt (p q : V) : cmpV p q < 0 ↔ lessV p q = true := by
  unfold cmpV cmpI lessV; simp only [Bool.or_eq_true, Bool.and_eq_true, decide_eq_true_eq, beq_iff_eq]; grind
theorem loS_le (s : S) : leV (loS s) s.a ∧ leV (loS s) s.b ∧ leV s.a (hiS s) ∧ leV s.b (hiS s) := by
  unfold loS hiS
  cases h : lessV s.b s.a
  · have := (lessV_false _ _).1 h; simp [this, leV_refl]
  · have h1 := (lessV_iff _ _).1 h
    have h2 : leV s.b s.a := (leV_total s.b s.a).elim id (fun h => absurd h h1)
    simp [h2, leV_refl]
theorem loS_mem (s : S) : (loS s = s.a ∧ hiS s = s.b) ∨ (loS s = s.b ∧ hiS s = s.a) := by
  unfold loS hiS; cases lessV s.b s.a <;> simp
theorem box_line (s : S) (p : V) (hne : s.a ≠ s.b) (hc : cross (sub s.b s.a) (sub p s.a) = 0) : inBox s p = true ↔ (leV (loS s) p ∧ leV p (hiS s)) := by
  simp only [cross, sub] at hc
  by_cases hy : s.b.y = s.a.y
  · have hx : s.b.x ≠ s.a.x := by
      intro hx; apply hne
      cases hsa : s.a; cases hsb : s.b; simp only [hsa, hsb] at hx hy; simp [hx, hy]
    have hpy : p.y = s.a.y := by
      have h0 : s.b.y - s.a.y = 0 := by omega
      rw [h0] at hc
      have : (s.b.x - s.a.x) * (p.y - s.a.y) = 0 := by omega
      rcases Int.mul_eq_zero.1 this with h | h <;> omega
    unfold loS hiS
    cases h : lessV s.b s.a
    · have h1 := (lessV_false _ _).1 h
      simp only [inBox, leV, Bool.and_eq_true, decide_eq_true_eq] at *
      simp only [Bool.false_eq_true, if_false]
      clear hc
      omega
    · have h1 := (lessV_iff _ _).1 h
      simp only [inBox, leV, Bool.and_eq_true, decide_eq_true_eq] at *
      simp only [if_true]
      clear hc
      omega
  · have hxy : p.y = s.a.y → p.x = s.a.x := by
      intro h
      have h0 : p.y - s.a.y = 0 := by omega
      rw [h0] at hc
      have : (s.b.y - s.a.y) * (p.x - s.a.x) = 0 := by omega
      rcases Int.mul_eq_zero.1 this with h | h <;> omega
    have hxz : p.y = s.b.y → p.x = s.b.x := by
      intro h
      rw [h] at hc
      have : (s.b.y - s.a.y) * (p.x - s.b.x) = 0 := by grind
      rcases Int.mul_eq_zero.1 this with h | h <;> omega
    rcases Int.lt_or_gt_of_ne hy with h | h
    · have hb := box_iff s p (s.a.y - s.b.y) (s.a.y - p.y) (by omega) (by grind) (by grind) hne
      rw [hb]
      have h1 : lessV s.b s.a = true := by rw [lessV_iff]; unfold leV; omega
      unfold loS hiS
      rw [h1]
      simp only [if_true, leV]
      clear hb hc hne
      omega
    · have hb := box_iff s p (s.b.y - s.a.y) (p.y - s.a.y) (by omega) (by grind) (by grind) hne
      rw [hb]
      have h1 : lessV s.b s.a = false := by rw [lessV_false]; unfold leV; omega
      unfold loS hiS
      rw [h1]
      simp only [Bool.false_eq_true, if_false, leV]
      clear hb hc hne
      omega
theorem inBox_point {s : S} (h : s.a = s.b) {p : V} (hp : inBox s p = true) : p = s.a := by
  cases hsa : s.a; cases hsb : s.b; cases p
  simp only [inBox, hsa, hsb, V.mk.injEq, Bool.and_eq_true, decide_eq_true_eq] at *
  omega
theorem cross_third (u v w : V) (h1 : cross u v = 0) (h2 : cross v w = 0) (hv : v ≠ ⟨0, 0⟩) : cross u w = 0 := by
  simp only [cross] at *
  by_cases hx : v.x = 0
  · have hy : v.y ≠ 0 := by intro hy; apply hv; cases v; simp at hx hy; simp [hx, hy]
    have : v.y * (u.x * w.y - u.y * w.x) = 0 := by grind
    rcases Int.mul_eq_zero.1 this with h | h
    · exact absurd h hy
    · exact h
  · have : v.x * (u.x * w.y - u.y * w.x) = 0 := by grind
    rcases Int.mul_eq_zero.1 this with h | h
    · exact absurd h hx
    · exact h
theorem sub_ne {p q : V} (h : p ≠ q) : sub q p ≠ ⟨0, 0⟩ := by
  intro h'; apply h; cases p; cases q; simp only [sub, V.mk.injEq] at *; omega
theorem meet_is (s t : S) : MeetIs s t (meetP s t) := by
  unfold meetP
  by_cases hv : (validS s && validS t) = true
  · have hs : validS s = true := by simp at hv; exact hv.1
    have ht : validS t = true := by simp at hv; exact hv.2
    rw [if_neg (by rw [hv]; simp)]
    by_cases hd : cross (sub s.b s.a) (sub t.b t.a) ≠ 0
    · rw [if_pos hd]; exact lines_is s t hs ht hd
    · rw [if_neg hd]
      have hd0 : cross (sub s.b s.a) (sub t.b t.a) = 0 := by omega
      have hnv : ∀ k, (validS s && validS t) = false → k = (0 : Int) := by intro k h; rw [hv] at h; cases h
      have hside : ¬ (turn s.a s.b t.a * turn s.a s.b t.b < 0 ∧ turn t.a t.b s.a * turn t.a t.b s.b < 0) := by
        rintro ⟨h, _⟩
        unfold turn at h
        rw [sgn_mul_neg] at h
        have e : cross (sub s.b s.a) (sub t.b s.a) = cross (sub s.b s.a) (sub t.a s.a) + cross (sub s.b s.a) (sub t.b t.a) := by simp only [cross, sub]; grind
        omega
      have allone : ∀ z, (∀ p, p ∈ [s.a, s.b, t.a, t.b] → onBoth s t p → p = z) → onBoth s t z → z ∈ [s.a, s.b, t.a, t.b] → MeetIs s t 1 := by
        intro z hz hzo hzm
        refine ⟨hnv 1, fun p q hp hq hne h1 h2 => absurd ((hz p hp h1).trans (hz q hq h2).symm) hne, fun _ _ _ => rfl, fun _ h => absurd hzo (h z hzm), fun _ h => absurd hzo (h z hzm)⟩
      have nothing : (∀ p, p ∈ [s.a, s.b, t.a, t.b] → ¬ onBoth s t p) → MeetIs s t 0 := by
        intro h
        exact ⟨fun _ => rfl, fun p _ hp _ _ h1 _ => absurd h1 (h p hp), fun _ _ ⟨p, hp, h1⟩ => absurd h1 (h p hp), fun _ _ h1 => absurd h1 hside, fun _ _ _ => rfl⟩
      by_cases h1 : s.a = s.b ∧ onS t s.a = true
      · rw [if_pos h1]
        exact allone s.a (fun p _ h => inBox_point h1.1 ((onS_iff hs).1 h.1).1) ⟨onS_a hs, h1.2⟩ (by simp)
      · rw [if_neg h1]
        by_cases h2 : t.a = t.b ∧ onS s t.a = true
        · rw [if_pos h2]
          exact allone t.a (fun p _ h => inBox_point h2.1 ((onS_iff ht).1 h.2).1) ⟨h2.2, onS_a ht⟩ (by simp)
        · rw [if_neg h2]
          by_cases h3 : s.a = s.b ∨ t.a = t.b ∨ turn s.a s.b t.a ≠ 0
          · rw [if_pos h3]
            apply nothing
            rintro p hp ⟨hps, hpt⟩
            by_cases hsd : s.a = s.b
            · have := inBox_point hsd ((onS_iff hs).1 hps).1
              rw [this] at hpt
              exact h1 ⟨hsd, hpt⟩
            · by_cases htd : t.a = t.b
              · have := inBox_point htd ((onS_iff ht).1 hpt).1
                rw [this] at hps
                exact h2 ⟨htd, hps⟩
              · have h4 : turn s.a s.b t.a ≠ 0 := by
                  rcases h3 with h | h | h
                  · exact absurd h hsd
                  · exact absurd h htd
                  · exact h
                have c1 := ((onS_iff hs).1 hps).2
                have c2 := ((onS_iff ht).1 hpt).2
                have hv0 := sub_ne htd
                have c3 := cross_third _ _ _ hd0 c2 hv0
                apply h4
                unfold turn
                rw [sgn_zero]
                have e : cross (sub s.b s.a) (sub t.a s.a) = cross (sub s.b s.a) (sub p s.a) - cross (sub s.b s.a) (sub p t.a) := by simp only [cross, sub]; grind
                omega
          · rw [if_neg h3]
            have hsd : s.a ≠ s.b := fun h => h3 (.inl h)
            have htd : t.a ≠ t.b := fun h => h3 (.inr (.inl h))
            have hta : cross (sub s.b s.a) (sub t.a s.a) = 0 := by
              have : turn s.a s.b t.a = 0 := Decidable.byContradiction fun h => h3 (.inr (.inr h))
              unfold turn at this
              rwa [sgn_zero] at this
            have hl1 : ∀ p, p ∈ [s.a, s.b, t.a, t.b] → cross (sub s.b s.a) (sub p s.a) = 0 := by
              intro p hp
              simp only [List.mem_cons, List.not_mem_nil, or_false] at hp
              rcases hp with rfl | rfl | rfl | rfl
              · simp [cross, sub]
              · simp only [cross]; grind
              · exact hta
              · have e : cross (sub s.b s.a) (sub t.b s.a) = cross (sub s.b s.a) (sub t.a s.a) + cross (sub s.b s.a) (sub t.b t.a) := by simp only [cross, sub]; grind
                omega
            have hl2 : ∀ p, p ∈ [s.a, s.b, t.a, t.b] → cross (sub t.b t.a) (sub p t.a) = 0 := by
              intro p hp
              have h5 := hl1 p hp
              have e : cross (sub s.b s.a) (sub p t.a) = cross (sub s.b s.a) (sub p s.a) - cross (sub s.b s.a) (sub t.a s.a) := by simp only [cross, sub]; grind
              have h6 : cross (sub s.b s.a) (sub p t.a) = 0 := by omega
              have h7 : cross (sub t.b t.a) (sub s.b s.a) = 0 := by
                have : cross (sub t.b t.a) (sub s.b s.a) = - cross (sub s.b s.a) (sub t.b t.a) := by simp only [cross, sub]; grind
                omega
              exact cross_third _ _ _ h7 h6 (sub_ne hsd)
            have hlo : leV (loS s) (shareLo s t) ∧ leV (loS t) (shareLo s t) ∧ (shareLo s t = loS s ∨ shareLo s t = loS t) := by
              unfold shareLo
              cases h : lessV (loS s) (loS t)
              · have := (lessV_false _ _).1 h; simp [this, leV_refl]
              · have h' := (lessV_iff _ _).1 h
                have : leV (loS s) (loS t) := (leV_total _ _).elim id (fun h => absurd h h')
                simp [this, leV_refl]
            have hhi : leV (shareHi s t) (hiS s) ∧ leV (shareHi s t) (hiS t) ∧ (shareHi s t = hiS s ∨ shareHi s t = hiS t) := by
              unfold shareHi
              cases h : lessV (hiS t) (hiS s)
              · have := (lessV_false _ _).1 h; simp [this, leV_refl]
              · have h' := (lessV_iff _ _).1 h
                have : leV (hiS t) (hiS s) := (leV_total _ _).elim id (fun h => absurd h h')
                simp [this, leV_refl]
            have hmem : ∀ p, (p = loS s ∨ p = hiS s ∨ p = loS t ∨ p = hiS t) → p ∈ [s.a, s.b, t.a, t.b] := by
              intro p h
              have h5 := loS_mem s
              have h6 := loS_mem t
              simp only [List.mem_cons, List.not_mem_nil, or_false]
              grind
            have hon : ∀ p, p ∈ [s.a, s.b, t.a, t.b] → (onBoth s t p ↔ leV (shareLo s t) p ∧ leV p (shareHi s t)) := by
              intro p hp
              unfold onBoth
              rw [onS_iff hs, onS_iff ht, box_line s p hsd (hl1 p hp), box_line t p htd (hl2 p hp)]
              constructor
              · rintro ⟨⟨⟨a1, a2⟩, _⟩, ⟨b1, b2⟩, _⟩
                refine ⟨?_, ?_⟩
                · rcases hlo.2.2 with h | h <;> rw [h] <;> assumption
                · rcases hhi.2.2 with h | h <;> rw [h] <;> assumption
              · rintro ⟨a1, a2⟩
                exact ⟨⟨⟨leV_trans hlo.1 a1, leV_trans a2 hhi.1⟩, hl1 p hp⟩, ⟨leV_trans hlo.2.1 a1, leV_trans a2 hhi.2.1⟩, hl2 p hp⟩
            have mlo : shareLo s t ∈ [s.a, s.b, t.a, t.b] := hmem _ (by rcases hlo.2.2 with h | h <;> simp [h])
            have mhi : shareHi s t ∈ [s.a, s.b, t.a, t.b] := hmem _ (by rcases hhi.2.2 with h | h <;> simp [h])
            by_cases h5 : cmpV (shareLo s t) (shareHi s t) = 0
            · rw [if_pos h5]
              have e := (cmpV_zero _ _).1 h5
              refine allone (shareLo s t) ?_ ((hon _ mlo).2 ⟨leV_refl _, by rw [e]; exact leV_refl _⟩) mlo
              intro p hp h
              have h6 := (hon p hp).1 h
              rw [← e] at h6
              exact leV_anti h6.2 h6.1
            · rw [if_neg h5]
              by_cases h6 : cmpV (shareLo s t) (shareHi s t) = -1
              · rw [if_pos h6]
                have h7 := (lessV_iff _ _).1 ((cmpV_neg _ _).1 h6)
                have h8 : leV (shareLo s t) (shareHi s t) := (leV_total _ _).elim id (fun h => absurd h h7)
                have o1 := (hon _ mlo).2 ⟨leV_refl _, h8⟩
                have o2 := (hon _ mhi).2 ⟨h8, leV_refl _⟩
                have hne : shareLo s t ≠ shareHi s t := fun h => h5 ((cmpV_zero _ _).2 h)
                exact ⟨fun h => absurd h (by rw [hv]; simp), fun _ _ _ _ _ _ _ => rfl, fun _ h _ => absurd (h _ _ mlo mhi o1 o2) hne, fun _ h => absurd o1 (h _ mlo), fun _ h => absurd o1 (h _ mlo)⟩
              · rw [if_neg h6]
                apply nothing
                intro p hp h
                have h7 := (hon p hp).1 h
                have h8 := leV_trans h7.1 h7.2
                have h9 : ¬ lessV (shareLo s t) (shareHi s t) = true := fun h => h6 ((cmpV_neg _ _).2 h)
                rw [lessV_iff] at h9
                exact h5 ((cmpV_zero _ _).2 (leV_anti h8 (Decidable.not_not.1 h9)))
  · have hv' : (validS s && validS t) = false := by simpa using hv
    rw [if_pos (by rw [hv']; rfl)]
    have hv3 : ¬ (validS s && validS t) = true := by rw [hv']; simp
    refine ⟨fun _ => rfl, fun p q _ _ _ h1 _ => ?_, fun h => absurd h hv3, fun h => absurd h hv3, fun h => absurd h hv3⟩
    exfalso
    apply hv3
    obtain ⟨h1, h2⟩ := h1
    unfold onS at h1 h2
    simp only [Bool.and_eq_true] at h1 h2 ⊢
    exact ⟨h1.1.1, h2.1.1⟩
def insV : List V → V → List V
  | [], p => [p]
  | q :: r, p => if lessV q p then q :: insV r p else if q = p then q :: r else p :: q :: r
def sortedV (l : List V) : List V := l.foldl insV []
theorem mem_insV (l : List V) (p x : V) : x ∈ insV l p ↔ x = p ∨ x ∈ l := by
  induction l with
  | nil => simp [insV]
  | cons q r ih =>
    unfold insV
    split
    · simp only [List.mem_cons, ih]; grind
    · split
      · rename_i h; subst h; simp
      · simp only [List.mem_cons]
theorem mem_foldl_insV (l acc : List V) (x : V) : x ∈ l.foldl insV acc ↔ x ∈ acc ∨ x ∈ l := by
  induction l generalizing acc with
  | nil => simp
  | cons q r ih => rw [List.foldl_cons, ih, mem_insV]; simp only [List.mem_cons]; grind
theorem mem_sortedV (l : List V) (x : V) : x ∈ sortedV l ↔ x ∈ l := by unfold sortedV; rw [mem_foldl_insV]; simp
theorem lessV_trans {p q r : V} (h1 : lessV p q = true) (h2 : lessV q r = true) : lessV p r = true := by
  unfold lessV at *; simp only [Bool.or_eq_true, Bool.and_eq_true, decide_eq_true_eq, beq_iff_eq] at *; omega
theorem lessV_irrefl (p : V) : lessV p p = false := by unfold lessV; simp
theorem lessV_tri {p q : V} (h1 : lessV p q = false) (h2 : p ≠ q) : lessV q p = true := by
  rw [lessV_iff]; intro h; exact h2 (leV_anti h ((lessV_false _ _).1 h1))
theorem insV_sorted (l : List V) (p : V) (h : l.Pairwise (fun a b => lessV a b = true)) : (insV l p).Pairwise (fun a b => lessV a b = true) := by
  induction l with
  | nil => simp [insV]
  | cons q r ih =>
    rw [List.pairwise_cons] at h
    unfold insV
    split
    · rename_i hq
      rw [List.pairwise_cons]
      refine ⟨?_, ih h.2⟩
      intro x hx
      rcases (mem_insV _ _ _).1 hx with rfl | hx
      · exact hq
      · exact h.1 x hx
    · rename_i hq
      split
      · rw [List.pairwise_cons]; exact h
      · rename_i hne
        have hpq := lessV_tri (by simpa using hq) hne
        rw [List.pairwise_cons, List.pairwise_cons]
        refine ⟨?_, h⟩
        intro x hx
        rcases List.mem_cons.1 hx with rfl | hx
        · exact hpq
        · exact lessV_trans hpq (h.1 x hx)
theorem foldl_insV_sorted (l acc : List V) (h : acc.Pairwise (fun a b => lessV a b = true)) : (l.foldl insV acc).Pairwise (fun a b => lessV a b = true) := by
  induction l generalizing acc with
  | nil => exact h
  | cons q r ih => exact ih _ (insV_sorted acc q h)
theorem sortedV_sorted (l : List V) : (sortedV l).Pairwise (fun a b => lessV a b = true) := foldl_insV_sorted l [] List.Pairwise.nil
def ends (s t : S) : List V := [s.a, s.b, t.a, t.b]
def commonR (s t : S) : List V := sortedV ((ends s t).filter (fun p => onS s p && onS t p))
theorem mem_commonR (s t : S) (p : V) : p ∈ commonR s t ↔ p ∈ ends s t ∧ onBoth s t p := by
  unfold commonR onBoth; rw [mem_sortedV, List.mem_filter]; simp
def sideR (s : S) (p : V) : Int := if !(validS s) || !(within p 4000) then 0 else turn s.a s.b p
def meetR (s t : S) : Int :=
  if !(validS s && validS t) then 0
  else if 1 < (commonR s t).length then 3
  else if (commonR s t).length = 1 then 1
  else if sideR s t.a * sideR s t.b < 0 ∧ sideR t s.a * sideR t s.b < 0 then 2
  else 0
theorem meet_eq (s t : S) : meetP s t = meetR s t := by
  have h := meet_is s t
  obtain ⟨k, hk⟩ : ∃ k, k = meetP s t := ⟨_, rfl⟩
  rw [← hk] at h ⊢
  clear hk
  unfold meetR
  cases hv : (validS s && validS t) with
  | false => simp [h.none hv]
  | true =>
    have hs : validS s = true := by simp at hv; exact hv.1
    have ht : validS t = true := by simp at hv; exact hv.2
    have ws := hs; have wt := ht
    unfold validS at ws wt
    simp only [Bool.and_eq_true] at ws wt
    simp only [Bool.not_true, Bool.false_eq_true, if_false, sideR, hs, ht, ws, wt, Bool.or_self]
    have hp := sortedV_sorted ((ends s t).filter (fun p => onS s p && onS t p))
    have hm := mem_commonR s t
    rw [show sortedV ((ends s t).filter (fun p => onS s p && onS t p)) = commonR s t from rfl] at hp
    generalize commonR s t = l at hp hm
    match l, hp, hm with
    | [], _, hm =>
      have hno : ∀ p, p ∈ [s.a, s.b, t.a, t.b] → ¬ onBoth s t p := fun p hp ho => by have := (hm p).2 ⟨hp, ho⟩; cases this
      simp only [List.length_nil]
      rw [if_neg (by omega), if_neg (by omega)]
      by_cases hc : turn s.a s.b t.a * turn s.a s.b t.b < 0 ∧ turn t.a t.b s.a * turn t.a t.b s.b < 0
      · rw [if_pos hc]; exact h.cross hv hno hc
      · rw [if_neg hc]; exact h.else_ hv hno hc
    | [z], _, hm =>
      simp only [List.length_singleton]
      rw [if_neg (by omega), if_pos trivial]
      have hz := (hm z).1 (by simp)
      refine h.touch hv ?_ ⟨z, hz⟩
      intro p q hp hq h1 h2
      have e1 := (hm p).2 ⟨hp, h1⟩
      have e2 := (hm q).2 ⟨hq, h2⟩
      simp at e1 e2
      rw [e1, e2]
    | z :: y :: r, hp, hm =>
      simp only [List.length_cons]
      rw [if_pos (by omega)]
      have hz := (hm z).1 (by simp)
      have hy := (hm y).1 (by simp)
      refine h.over z y hz.1 hy.1 ?_ hz.2 hy.2
      intro e
      rw [List.pairwise_cons] at hp
      have := hp.1 y (by simp)
      rw [e, lessV_irrefl] at this
      cases this
end Go.Proofs.YtdaeofhdgabhjaaGreat.Geo
namespace Go.Proofs.YtdaeofhdgabhjaaGreat.Geo
abbrev Ring := List V
def nth (r : Ring) (i : Nat) : V := r.getD i default
def nxt (r : Ring) (i : Nat) : V := nth r ((i + 1) % r.length)
def prv (r : Ring) (i : Nat) : V := nth r ((i + r.length - 1) % r.length)
def edge (r : Ring) (i : Nat) : S := ⟨nth r i, nxt r i⟩
def edges (r : Ring) : List S := if r.length < 2 then [] else (List.range r.length).map (edge r)
def area (r : Ring) : Int := ((List.range r.length).map fun i => cross (nth r i) (nxt r i)).sum
def near (r : Ring) : Bool := r.all fun v => within v 2000
def validP (r : Ring) : Bool :=
  decide (3 ≤ r.length) && decide (r.length ≤ 40) && near r && decide (0 < area r) &&
  ((List.range r.length).all fun i => turn (prv r i) (nth r i) (nxt r i) != 0) &&
  ((List.range r.length).all fun i => (List.range r.length).all fun k => decide (k ≤ i) || k == i + 1 || (i == 0 && k == r.length - 1) || meetP (edge r i) (edge r k) == 0)
def validR (r : Ring) : Bool :=
  decide (3 ≤ r.length) && decide (r.length ≤ 40) && near r &&
  ((List.range r.length).all fun i => turn (nth r i) (nth r ((i + 1) % r.length)) (nth r ((i + 2) % r.length)) != 0) &&
  ((List.range r.length).all fun i => (List.range r.length).all fun k => decide (k ≤ i) ||
    (if k = i + 1 ∨ (i = 0 ∧ k = r.length - 1) then meetR (edge r i) (edge r k) == 1 else meetR (edge r i) (edge r k) == 0)) &&
  decide (0 < area r)
theorem turn_rot (a b c : V) : turn a b c = turn b c a := by
  unfold turn; congr 1; simp only [cross, sub]; grind
theorem meet_adj (s t : S) (hs : validS s = true) (ht : validS t = true) (he : s.b = t.a) (hn : turn s.a s.b t.b ≠ 0) : meetP s t = 1 := by
  have h := meet_is s t
  have hb : onBoth s t s.b := ⟨onS_b hs, by rw [he]; exact onS_a ht⟩
  refine h.touch (by rw [hs, ht]; rfl) ?_ ⟨s.b, by simp, hb⟩
  have key : ∀ p, p ∈ [s.a, s.b, t.a, t.b] → onBoth s t p → p = s.b := by
    intro p hp ho
    simp only [List.mem_cons, List.not_mem_nil, or_false] at hp
    rcases hp with rfl | rfl | rfl | rfl
    · exfalso; apply hn
      have := ((onS_iff ht).1 ho.2).2
      rw [turn_rot]; unfold turn; rw [sgn_zero, he]; exact this
    · rfl
    · exact he.symm
    · exfalso; apply hn
      have := ((onS_iff hs).1 ho.1).2
      unfold turn; rw [sgn_zero]; exact this
  intro p q hp hq h1 h2
  rw [key p hp h1, key q hq h2]
theorem meet_comm (s t : S) : meetP s t = meetP t s := by
  have h1 := meet_is s t
  have h2 := meet_is t s
  have hmem : ∀ p, p ∈ [s.a, s.b, t.a, t.b] ↔ p ∈ [t.a, t.b, s.a, s.b] := by intro p; simp only [List.mem_cons, List.not_mem_nil, or_false]; grind
  have hob : ∀ p, onBoth s t p ↔ onBoth t s p := fun p => And.comm
  cases hv : (validS s && validS t) with
  | false => rw [h1.none hv, h2.none (by rw [Bool.and_comm]; exact hv)]
  | true =>
    have hv' : (validS t && validS s) = true := by rw [Bool.and_comm]; exact hv
    by_cases hx : ∃ p, p ∈ [s.a, s.b, t.a, t.b] ∧ onBoth s t p
    · by_cases hu : ∀ p q, p ∈ [s.a, s.b, t.a, t.b] → q ∈ [s.a, s.b, t.a, t.b] → onBoth s t p → onBoth s t q → p = q
      · rw [h1.touch hv hu hx, h2.touch hv' (fun p q hp hq a b => hu p q ((hmem p).2 hp) ((hmem q).2 hq) ((hob p).2 a) ((hob q).2 b))]
        obtain ⟨p, hp, ho⟩ := hx
        exact ⟨p, (hmem p).1 hp, (hob p).1 ho⟩
      · have : ∃ p q, p ∈ [s.a, s.b, t.a, t.b] ∧ q ∈ [s.a, s.b, t.a, t.b] ∧ p ≠ q ∧ onBoth s t p ∧ onBoth s t q := by
          apply Classical.byContradiction
          intro hno
          apply hu
          intro p q hp hq a b
          apply Classical.byContradiction
          intro hne
          exact hno ⟨p, q, hp, hq, hne, a, b⟩
        obtain ⟨p, q, hp, hq, hne, a, b⟩ := this
        rw [h1.over p q hp hq hne a b, h2.over p q ((hmem p).1 hp) ((hmem q).1 hq) hne ((hob p).1 a) ((hob q).1 b)]
    · have hno : ∀ p, p ∈ [s.a, s.b, t.a, t.b] → ¬ onBoth s t p := fun p hp ho => hx ⟨p, hp, ho⟩
      have hno' : ∀ p, p ∈ [t.a, t.b, s.a, s.b] → ¬ onBoth t s p := fun p hp ho => hno p ((hmem p).2 hp) ((hob p).2 ho)
      by_cases hc : turn s.a s.b t.a * turn s.a s.b t.b < 0 ∧ turn t.a t.b s.a * turn t.a t.b s.b < 0
      · rw [h1.cross hv hno hc, h2.cross hv' hno' ⟨hc.2, hc.1⟩]
      · rw [h1.else_ hv hno hc, h2.else_ hv' hno' (fun h => hc ⟨h.2, h.1⟩)]
theorem within_mono {v : V} {m n : Int} (h : within v m = true) (hmn : m ≤ n) : within v n = true := by
  unfold within at *; simp only [Bool.and_eq_true, decide_eq_true_eq] at *; omega
theorem near_nth {r : Ring} (h : near r = true) (i : Nat) (hi : i < r.length) : within (nth r i) 2000 = true := by
  unfold near at h
  rw [List.all_eq_true] at h
  unfold nth
  rw [List.getD_eq_getElem?_getD, List.getElem?_eq_getElem hi]
  exact h _ (List.getElem_mem hi)
theorem near_edge {r : Ring} (h : near r = true) (i : Nat) (hi : i < r.length) : validS (edge r i) = true := by
  unfold validS edge nxt
  have h2 : (i + 1) % r.length < r.length := Nat.mod_lt _ (by omega)
  simp only [Bool.and_eq_true]
  exact ⟨within_mono (near_nth h i hi) (by omega), within_mono (near_nth h _ h2) (by omega)⟩
theorem mod_small {i n : Nat} (h : i < n) : i % n = i := Nat.mod_eq_of_lt h
theorem mod_wrap {i n : Nat} (h1 : n ≤ i) (h2 : i < 2 * n) : i % n = i - n := by
  rw [Nat.mod_eq_sub_mod h1, Nat.mod_eq_of_lt (by omega)]
theorem turns_iff (r : Ring) (hn : 3 ≤ r.length) :
    ((List.range r.length).all fun i => turn (prv r i) (nth r i) (nxt r i) != 0) = ((List.range r.length).all fun i => turn (nth r i) (nth r ((i + 1) % r.length)) (nth r ((i + 2) % r.length)) != 0) := by
  rw [Bool.eq_iff_iff, List.all_eq_true, List.all_eq_true]
  constructor
  · intro h i hi
    have hi := List.mem_range.1 hi
    have := h ((i + 1) % r.length) (List.mem_range.2 (Nat.mod_lt _ (by omega)))
    unfold prv nxt at this
    by_cases h1 : i + 1 < r.length
    · rw [mod_small h1] at this ⊢
      have e1 : (i + 1 + r.length - 1) % r.length = i := by rw [show i + 1 + r.length - 1 = i + r.length from by omega, mod_wrap (by omega) (by omega)]; omega
      rw [e1] at this
      exact this
    · have e0 : i + 1 = r.length := by omega
      rw [e0, Nat.mod_self] at this ⊢
      have e1 : (0 + r.length - 1) % r.length = i := by rw [mod_small (by omega)]; omega
      have e2 : (i + 2) % r.length = (0 + 1) % r.length := by rw [mod_wrap (by omega) (by omega), mod_small (by omega)]; omega
      rw [e1] at this
      rw [e2]
      exact this
  · intro h i hi
    have hi := List.mem_range.1 hi
    have := h ((i + r.length - 1) % r.length) (List.mem_range.2 (Nat.mod_lt _ (by omega)))
    unfold prv nxt
    by_cases h1 : i = 0
    · subst h1
      have e1 : (0 + r.length - 1) % r.length = r.length - 1 := by rw [mod_small (by omega)]; omega
      rw [e1] at this ⊢
      have e2 : (r.length - 1 + 1) % r.length = 0 := by rw [show r.length - 1 + 1 = r.length from by omega, Nat.mod_self]
      have e3 : (r.length - 1 + 2) % r.length = (0 + 1) % r.length := by rw [mod_wrap (by omega) (by omega), mod_small (by omega)]; omega
      rw [e2, e3] at this
      exact this
    · have e1 : (i + r.length - 1) % r.length = i - 1 := by rw [mod_wrap (by omega) (by omega)]; omega
      rw [e1] at this ⊢
      have e2 : (i - 1 + 1) % r.length = i := by rw [show i - 1 + 1 = i from by omega]; exact mod_small hi
      have e3 : i - 1 + 2 = i + 1 := by omega
      rw [e2, e3] at this
      exact this
theorem valid_eq (r : Ring) : validP r = validR r := by
  unfold validP validR
  by_cases h3 : 3 ≤ r.length
  case neg => simp [h3]
  by_cases hn : near r = true
  case neg => simp [hn]
  rw [turns_iff r h3]
  cases ht : ((List.range r.length).all fun i => turn (nth r i) (nth r ((i + 1) % r.length)) (nth r ((i + 2) % r.length)) != 0) with
  | false => simp
  | true =>
    have hpairs : ((List.range r.length).all fun i => (List.range r.length).all fun k => decide (k ≤ i) || k == i + 1 || (i == 0 && k == r.length - 1) || meetP (edge r i) (edge r k) == 0) =
        ((List.range r.length).all fun i => (List.range r.length).all fun k => decide (k ≤ i) ||
          (if k = i + 1 ∨ (i = 0 ∧ k = r.length - 1) then meetR (edge r i) (edge r k) == 1 else meetR (edge r i) (edge r k) == 0)) := by
      have hturn : ∀ i, i < r.length → turn (nth r i) (nth r ((i + 1) % r.length)) (nth r ((i + 2) % r.length)) ≠ 0 := by
        intro i hi
        rw [List.all_eq_true] at ht
        have := ht i (List.mem_range.2 hi)
        simpa using this
      have hpt : ∀ i k, i < r.length → k < r.length → (decide (k ≤ i) || k == i + 1 || (i == 0 && k == r.length - 1) || meetP (edge r i) (edge r k) == 0) = (decide (k ≤ i) ||
          (if k = i + 1 ∨ (i = 0 ∧ k = r.length - 1) then meetR (edge r i) (edge r k) == 1 else meetR (edge r i) (edge r k) == 0)) := by
        intro i k hi hk
        rw [← meet_eq]
        by_cases hki : k ≤ i
        · simp [hki]
        · by_cases h1 : k = i + 1
          · subst h1
            have := meet_adj (edge r i) (edge r (i + 1)) (near_edge hn i hi) (near_edge hn _ hk) (by unfold edge nxt; simp [mod_small hk]) (by
              have := hturn i hi
              unfold edge nxt
              exact this)
            simp [this]
          · by_cases h2 : i = 0 ∧ k = r.length - 1
            · obtain ⟨rfl, rfl⟩ := h2
              have e1 : (r.length - 1 + 1) % r.length = 0 := by rw [show r.length - 1 + 1 = r.length from by omega, Nat.mod_self]
              have := meet_adj (edge r (r.length - 1)) (edge r 0) (near_edge hn _ hk) (near_edge hn _ hi) (by unfold edge nxt; simp only [e1]) (by
                have := hturn (r.length - 1) hk
                have e3 : (r.length - 1 + 2) % r.length = (0 + 1) % r.length := by rw [mod_wrap (by omega) (by omega), mod_small (by omega)]; omega
                rw [e1, e3] at this
                unfold edge nxt
                simp only [e1]
                exact this)
              rw [meet_comm] at this
              simp [this]
            · have h3 : (i == 0 && k == r.length - 1) = false := by
                rw [← Bool.not_eq_true, Bool.and_eq_true, beq_iff_eq, beq_iff_eq]; exact h2
              have h4 : (k == i + 1) = false := by rw [beq_eq_false_iff_ne]; exact h1
              rw [if_neg (by omega), h3, h4]
              simp
      rw [Bool.eq_iff_iff]
      simp only [List.all_eq_true, List.mem_range]
      constructor
      · intro h i hi k hk; rw [← hpt i k hi hk]; exact h i hi k hk
      · intro h i hi k hk; rw [hpt i k hi hk]; exact h i hi k hk
    rw [hpairs]
    simp only [Bool.and_true]
    grind
structure Pt where
  x : Int
  y : Int
  den : Int
deriving DecidableEq, Inhabited
def toV (p : Pt) (v : V) : V := ⟨p.x - v.x * p.den, p.y - v.y * p.den⟩
def sideP (s : S) (p : Pt) : Int := cross (sub s.b s.a) (toV p s.a)
def onP (s : S) (p : Pt) : Bool :=
  sideP s p == 0 && (decide (min (toV p s.a).x (toV p s.b).x ≤ 0) && decide (0 ≤ max (toV p s.a).x (toV p s.b).x)) && (decide (min (toV p s.a).y (toV p s.b).y ≤ 0) && decide (0 ≤ max (toV p s.a).y (toV p s.b).y))
def hitP (s : S) (p : Pt) : Bool :=
  (decide (0 ≤ (toV p s.a).y) != decide (0 ≤ (toV p s.b).y)) && (decide (0 ≤ (toV p s.a).y) == decide (0 < sideP s p))
def onR (s : S) (p : Pt) : Bool :=
  (decide (min s.a.x s.b.x * p.den ≤ p.x) && decide (p.x ≤ max s.a.x s.b.x * p.den) && decide (min s.a.y s.b.y * p.den ≤ p.y) && decide (p.y ≤ max s.a.y s.b.y * p.den)) && sgn (sideP s p) == 0
def hitR (s : S) (p : Pt) : Bool :=
  ((decide (s.a.y * p.den ≤ p.y) && decide (p.y < s.b.y * p.den)) && decide (0 < sgn (sideP s p))) || ((decide (s.b.y * p.den ≤ p.y) && decide (p.y < s.a.y * p.den)) && decide (sgn (sideP s p) < 0))
theorem min_mul (a b d : Int) (h : 0 ≤ d) : min a b * d = min (a * d) (b * d) := by
  rcases Int.le_total a b with h1 | h1
  · rw [Int.min_eq_left h1, Int.min_eq_left (Int.mul_le_mul_of_nonneg_right h1 h)]
  · rw [Int.min_eq_right h1, Int.min_eq_right (Int.mul_le_mul_of_nonneg_right h1 h)]
theorem max_mul (a b d : Int) (h : 0 ≤ d) : max a b * d = max (a * d) (b * d) := by
  rcases Int.le_total a b with h1 | h1
  · rw [Int.max_eq_right h1, Int.max_eq_right (Int.mul_le_mul_of_nonneg_right h1 h)]
  · rw [Int.max_eq_left h1, Int.max_eq_left (Int.mul_le_mul_of_nonneg_right h1 h)]
theorem on_eq (s : S) (p : Pt) (h : 0 < p.den) : onP s p = onR s p := by
  unfold onP onR toV
  rw [min_mul _ _ _ (by omega), max_mul _ _ _ (by omega), min_mul _ _ _ (by omega), max_mul _ _ _ (by omega), Bool.eq_iff_iff]
  simp only [Bool.and_eq_true, decide_eq_true_eq, beq_iff_eq, sgn_zero]
  constructor
  · rintro ⟨⟨h1, h2, h3⟩, h4, h5⟩; exact ⟨⟨⟨⟨by omega, by omega⟩, by omega⟩, by omega⟩, h1⟩
  · rintro ⟨⟨⟨⟨h1, h2⟩, h3⟩, h4⟩, h5⟩; exact ⟨⟨h5, by omega, by omega⟩, by omega, by omega⟩
theorem on_of_side (s : S) (p : Pt) (h0 : sideP s p = 0) (ha : (toV p s.a).y < 0) (hb : 0 ≤ (toV p s.b).y) (_hd : 0 < p.den) : onP s p = true := by
  have e : sideP s p * p.den = (toV p s.a).x * (toV p s.b).y - (toV p s.a).y * (toV p s.b).x := by unfold sideP toV cross sub; grind
  rw [h0, Int.zero_mul] at e
  unfold onP
  rw [h0]
  generalize (toV p s.a).x = ax at *
  generalize (toV p s.a).y = ay at *
  generalize (toV p s.b).x = bx at *
  generalize (toV p s.b).y = b_y at *
  simp only [BEq.rfl, Bool.true_and, Bool.and_eq_true, decide_eq_true_eq]
  have hx : (min ax bx ≤ 0 ∧ 0 ≤ max ax bx) := by
    rcases Int.lt_or_le 0 ax with h1 | h1
    · have h2 : bx ≤ 0 := by
        rcases Int.lt_or_le 0 bx with h2 | h2
        · have p1 := Int.mul_neg_of_neg_of_pos ha h2
          have p2 := Int.mul_nonneg (show 0 ≤ ax by omega) hb
          omega
        · exact h2
      omega
    · rcases Int.lt_or_le ax 0 with h1 | h1
      · have h2 : 0 ≤ bx := by
          rcases Int.lt_or_le bx 0 with h2 | h2
          · have p1 := Int.mul_pos_of_neg_of_neg ha h2
            have p2 := Int.mul_nonneg (show 0 ≤ -ax by omega) hb
            rw [Int.neg_mul] at p2
            omega
          · exact h2
        omega
      · omega
  refine ⟨hx, by omega, by omega⟩
theorem hit_eq (s : S) (p : Pt) (h : 0 < p.den) (ho : onP s p = false) : hitP s p = hitR s p := by
  have key : (toV p s.a).y < 0 → 0 ≤ (toV p s.b).y → sideP s p ≠ 0 := by
    intro h1 h2 h3
    rw [on_of_side s p h3 h1 h2 h] at ho; cases ho
  unfold hitP hitR
  rw [Bool.eq_iff_iff]
  simp only [Bool.and_eq_true, Bool.or_eq_true, decide_eq_true_eq, bne_iff_ne, ne_eq, beq_iff_eq, sgn_pos, sgn_neg, decide_eq_decide]
  have ey1 : (toV p s.a).y = p.y - s.a.y * p.den := rfl
  have ey2 : (toV p s.b).y = p.y - s.b.y * p.den := rfl
  generalize (toV p s.a).y = ay at *
  generalize (toV p s.b).y = b_y at *
  generalize s.a.y * p.den = u at *
  generalize s.b.y * p.den = v at *
  generalize sideP s p = q at *
  by_cases h1 : 0 ≤ ay
  · by_cases h2 : 0 ≤ b_y
    · simp only [h1, h2]; constructor
      · intro h; exact absurd trivial h.1
      · rintro (h | h) <;> omega
    · constructor
      · rintro ⟨_, h3⟩; left; exact ⟨⟨by omega, by omega⟩, h3.1 h1⟩
      · rintro (⟨_, h3⟩ | h3)
        · exact ⟨by omega, by omega⟩
        · omega
  · by_cases h2 : 0 ≤ b_y
    · have := key (by omega) h2
      constructor
      · rintro ⟨_, h3⟩; right; refine ⟨⟨by omega, by omega⟩, by omega⟩
      · rintro (h3 | ⟨_, h3⟩)
        · omega
        · exact ⟨by omega, by omega⟩
    · simp only [h1, h2]; constructor
      · intro h; exact absurd trivial h.1
      · rintro (h | h) <;> omega
def boundedP (p : Pt) (m : Int) : Bool := decide (1 ≤ p.den) && decide (p.den ≤ 134217728) && within ⟨p.x, p.y⟩ (m * p.den)
def validPt (p : Pt) : Bool := boundedP p 4000 && (Nat.gcd (Nat.gcd p.x.natAbs p.y.natAbs) p.den.natAbs == 1)
def scanP (p : Pt) : List S → Bool → Int
  | [], ins => if ins then 2 else 0
  | s :: l, ins => if onP s p then 1 else scanP p l (ins != hitP s p)
def scanR (p : Pt) : List S → Bool → Int
  | [], ins => if ins then 2 else 0
  | s :: l, ins => if onR s p then 1 else scanR p l (ins != hitR s p)
theorem scan_eq (p : Pt) (h : 0 < p.den) (l : List S) (ins : Bool) : scanP p l ins = scanR p l ins := by
  induction l generalizing ins with
  | nil => rfl
  | cons s l ih =>
    unfold scanP scanR
    rw [← on_eq s p h]
    cases ho : onP s p with
    | true => rfl
    | false => rw [ih, hit_eq s p h ho]
def whereP (r : Ring) (p : Pt) : Int := if !(validP r) || !(validPt p) then 0 else scanP p (edges r) false
def whereR (r : Ring) (p : Pt) : Int := if !(validR r) || !(validPt p) then 0 else scanR p (edges r) false
theorem where_eq (r : Ring) (p : Pt) : whereP r p = whereR r p := by
  unfold whereP whereR
  rw [valid_eq]
  cases hp : validPt p with
  | false => simp
  | true =>
    have : 0 < p.den := by
      unfold validPt boundedP at hp
      simp only [Bool.and_eq_true, decide_eq_true_eq] at hp
      omega
    rw [scan_eq p this]
def ptOf (v : V) : Pt := ⟨v.x, v.y, 1⟩
def whereVP (r : Ring) (v : V) : Int := if !(within v 4000) then 0 else whereP r (ptOf v)
def whereVR (r : Ring) (v : V) : Int := if !(within v 8000) then 0 else whereR r (ptOf v)
theorem validPt_ptOf (v : V) : validPt (ptOf v) = within v 4000 := by
  unfold validPt boundedP ptOf within
  simp
theorem whereV_eq (r : Ring) (v : V) : whereVP r v = whereVR r v := by
  unfold whereVP whereVR
  rw [where_eq]
  cases h : within v 4000 with
  | true => rw [within_mono h (by omega)]
  | false =>
    unfold whereR
    rw [validPt_ptOf, h]
    simp
end Go.Proofs.YtdaeofhdgabhjaaGreat.Geo
namespace Go.Proofs.YtdaeofhdgabhjaaGreat.Geo
structure Shape where
  outer : Ring
  holes : List Ring
deriving DecidableEq, Inhabited
def ringsS (s : Shape) : List Ring := s.outer :: s.holes
def nthR (l : List Ring) (i : Nat) : Ring := l.getD i []
def apartP (a b : Ring) : Bool := (edges a).all fun x => (edges b).all fun y => meetP x y == 0
def allP (r q : Ring) (place : Int) : Bool := r.all fun v => whereVP q v == place
def cornersS (s : Shape) : Nat := ((ringsS s).map List.length).sum
def validSP (s : Shape) : Bool :=
  decide (s.holes.length ≤ 6) && (ringsS s).all validP && decide (cornersS s ≤ 80) &&
  ((List.range s.holes.length).all fun i => allP (nthR s.holes i) s.outer 2 && apartP (nthR s.holes i) s.outer &&
    ((List.range i).all fun k => apartP (nthR s.holes i) (nthR s.holes k) && allP (nthR s.holes i) (nthR s.holes k) 0 && allP (nthR s.holes k) (nthR s.holes i) 0))
def meetsR (a b : Ring) : Bool := (edges a).any fun x => (edges b).any fun y => meetR x y != 0
def insideAllR (a b : Ring) : Bool := a.all fun v => whereVR b v == 2
def insideAnyR (a b : Ring) : Bool := a.any fun v => whereVR b v == 2
def validSR (s : Shape) : Bool :=
  decide (s.holes.length ≤ 6) && validR s.outer &&
  ((List.range s.holes.length).all fun i => validR (nthR s.holes i) && !meetsR (nthR s.holes i) s.outer && insideAllR (nthR s.holes i) s.outer &&
    ((List.range i).all fun k => !meetsR (nthR s.holes i) (nthR s.holes k) && !insideAnyR (nthR s.holes i) (nthR s.holes k) && !insideAnyR (nthR s.holes k) (nthR s.holes i))) &&
  decide (cornersS s ≤ 80)
theorem apart_meets (a b : Ring) : apartP a b = !meetsR a b := by
  unfold apartP meetsR
  rw [List.not_any_eq_all_not]
  congr 1; funext x
  rw [List.not_any_eq_all_not]
  congr 1; funext y
  rw [meet_eq]
  cases h : (meetR x y == 0) <;> simp_all
theorem meet_ne_zero {s t : S} {p : V} (hp : p ∈ [s.a, s.b, t.a, t.b]) (ho : onBoth s t p) : meetP s t ≠ 0 := by
  have h := meet_is s t
  have hv : (validS s && validS t) = true := by
    obtain ⟨h1, h2⟩ := ho
    unfold onS at h1 h2
    simp only [Bool.and_eq_true] at h1 h2 ⊢
    exact ⟨h1.1.1, h2.1.1⟩
  by_cases hu : ∀ p q, p ∈ [s.a, s.b, t.a, t.b] → q ∈ [s.a, s.b, t.a, t.b] → onBoth s t p → onBoth s t q → p = q
  · rw [h.touch hv hu ⟨p, hp, ho⟩]; decide
  · have : ∃ p q, p ∈ [s.a, s.b, t.a, t.b] ∧ q ∈ [s.a, s.b, t.a, t.b] ∧ p ≠ q ∧ onBoth s t p ∧ onBoth s t q := by
      apply Classical.byContradiction
      intro hno
      apply hu
      intro p q hp hq a b
      apply Classical.byContradiction
      intro hne
      exact hno ⟨p, q, hp, hq, hne, a, b⟩
    obtain ⟨p, q, hp, hq, hne, a, b⟩ := this
    rw [h.over p q hp hq hne a b]; decide
theorem mem_edges {r : Ring} {s : S} : s ∈ edges r ↔ 2 ≤ r.length ∧ ∃ i, i < r.length ∧ s = edge r i := by
  unfold edges
  split
  · simp; omega
  · simp only [List.mem_map, List.mem_range]
    constructor
    · rintro ⟨i, hi, rfl⟩; exact ⟨by omega, i, hi, rfl⟩
    · rintro ⟨_, i, hi, rfl⟩; exact ⟨i, hi, rfl⟩
theorem mem_nth {r : Ring} {v : V} : v ∈ r ↔ ∃ i, i < r.length ∧ v = nth r i := by
  unfold nth
  constructor
  · intro h
    obtain ⟨i, hi, e⟩ := List.getElem_of_mem h
    exact ⟨i, hi, by rw [List.getD_eq_getElem?_getD, List.getElem?_eq_getElem hi]; exact e.symm⟩
  · rintro ⟨i, hi, rfl⟩
    rw [List.getD_eq_getElem?_getD, List.getElem?_eq_getElem hi]
    exact List.getElem_mem hi
structure VR (r : Ring) : Prop where
  three : 3 ≤ r.length
  most : r.length ≤ 40
  near : near r = true
  area : 0 < area r
  turn : ∀ i, i < r.length → turn (prv r i) (nth r i) (nxt r i) ≠ 0
  turn' : ∀ i, i < r.length → Geo.turn (nth r i) (nth r ((i + 1) % r.length)) (nth r ((i + 2) % r.length)) ≠ 0
  apart : ∀ i k, i < k → k < r.length → k ≠ i + 1 → ¬ (i = 0 ∧ k = r.length - 1) → meetP (edge r i) (edge r k) = 0
theorem validP_iff (r : Ring) : validP r = true ↔ VR r := by
  constructor
  · intro h
    unfold validP at h
    simp only [Bool.and_eq_true, decide_eq_true_eq, List.all_eq_true, List.mem_range] at h
    obtain ⟨⟨⟨⟨⟨h1, h2⟩, h3⟩, h4⟩, h5⟩, h6⟩ := h
    refine ⟨h1, h2, h3, h4, fun i hi => by simpa using h5 i hi, fun i hi => ?_, fun i k hik hk h7 h8 => ?_⟩
    · have := turns_iff r h1
      have e : ((List.range r.length).all fun i => Geo.turn (prv r i) (nth r i) (nxt r i) != 0) = true := by
        rw [List.all_eq_true]; intro i hi; exact h5 i (List.mem_range.1 hi)
      rw [this, List.all_eq_true] at e
      simpa using e i (List.mem_range.2 hi)
    · have := h6 i (by omega) k hk
      simp only [Bool.or_eq_true, decide_eq_true_eq, beq_iff_eq, Bool.and_eq_true] at this
      omega
  · rintro ⟨h1, h2, h3, h4, h5, _, h6⟩
    unfold validP
    simp only [Bool.and_eq_true, decide_eq_true_eq, List.all_eq_true, List.mem_range]
    refine ⟨⟨⟨⟨⟨h1, h2⟩, h3⟩, h4⟩, fun i hi => by simpa using h5 i hi⟩, fun i _ k hk => ?_⟩
    simp only [Bool.or_eq_true, decide_eq_true_eq, beq_iff_eq, Bool.and_eq_true]
    by_cases c1 : k ≤ i
    · exact .inl (.inl (.inl c1))
    · by_cases c2 : k = i + 1
      · exact .inl (.inl (.inr c2))
      · by_cases c3 : i = 0 ∧ k = r.length - 1
        · exact .inl (.inr c3)
        · exact .inr (h6 i k (by omega) hk c2 c3)
theorem scan_one {p : Pt} {l : List S} {ins : Bool} (h : scanP p l ins = 1) : ∃ s ∈ l, onP s p = true := by
  induction l generalizing ins with
  | nil => unfold scanP at h; split at h <;> omega
  | cons s l ih =>
    unfold scanP at h
    cases ho : onP s p with
    | true => exact ⟨s, by simp, ho⟩
    | false =>
      rw [ho] at h
      obtain ⟨x, hx, h2⟩ := ih h
      exact ⟨x, List.mem_cons_of_mem _ hx, h2⟩
theorem scan_range (p : Pt) (l : List S) (ins : Bool) : scanP p l ins = 0 ∨ scanP p l ins = 1 ∨ scanP p l ins = 2 := by
  induction l generalizing ins with
  | nil => unfold scanP; split <;> simp
  | cons s l ih => unfold scanP; split; simp; exact ih _
theorem whereVP_range (r : Ring) (v : V) : whereVP r v = 0 ∨ whereVP r v = 1 ∨ whereVP r v = 2 := by
  unfold whereVP whereP
  split
  · simp
  · split
    · simp
    · exact scan_range _ _ _
theorem onP_ptOf (s : S) (v : V) : onP s (ptOf v) = true ↔ (inBox s v = true ∧ cross (sub s.b s.a) (sub v s.a) = 0) := by
  unfold onP sideP toV ptOf inBox
  simp only [Int.mul_one, Bool.and_eq_true, beq_iff_eq, decide_eq_true_eq]
  rw [show (⟨v.x - s.a.x, v.y - s.a.y⟩ : V) = sub v s.a from rfl]
  constructor
  · rintro ⟨⟨h1, h2, h3⟩, h4, h5⟩; exact ⟨⟨⟨⟨by omega, by omega⟩, by omega⟩, by omega⟩, h1⟩
  · rintro ⟨⟨⟨⟨h1, h2⟩, h3⟩, h4⟩, h5⟩; exact ⟨⟨h5, by omega, by omega⟩, by omega, by omega⟩
theorem whereVP_one {r : Ring} {v : V} (h : whereVP r v = 1) : ∃ s ∈ edges r, onS s v = true := by
  unfold whereVP whereP at h
  split at h
  · omega
  · split at h
    · omega
    · rename_i h2
      obtain ⟨s, hs, ho⟩ := scan_one h
      refine ⟨s, hs, ?_⟩
      have hv : VR r := by rw [← validP_iff]; simp at h2; exact h2.1
      obtain ⟨_, i, hi, rfl⟩ := mem_edges.1 hs
      rw [onS_iff (near_edge hv.near i hi)]
      exact (onP_ptOf _ _).1 ho
theorem apart_no_touch {a b : Ring} (ha : VR a) (h : apartP a b = true) {v : V} (hv : v ∈ a) {s : S} (hs : s ∈ edges b) (ho : onS s v = true) : False := by
  obtain ⟨i, hi, rfl⟩ := mem_nth.1 hv
  have hm : edge a i ∈ edges a := mem_edges.2 ⟨by have := ha.three; omega, i, hi, rfl⟩
  unfold apartP at h
  rw [List.all_eq_true] at h
  have h1 := h _ hm
  rw [List.all_eq_true] at h1
  have h2 := h1 _ hs
  refine meet_ne_zero (s := edge a i) (t := s) (p := nth a i) (by simp [edge]) ⟨?_, ho⟩ (by simpa using h2)
  exact onS_a (s := edge a i) (near_edge ha.near i hi)
theorem apartP_comm (a b : Ring) : apartP a b = apartP b a := by
  unfold apartP
  rw [Bool.eq_iff_iff]
  simp only [List.all_eq_true, beq_iff_eq]
  constructor
  · intro h y hy x hx; rw [meet_comm]; exact h x hx y hy
  · intro h x hx y hy; rw [meet_comm]; exact h y hy x hx
theorem all_any {a b : Ring} (ha : VR a) (h : apartP a b = true) : allP a b 0 = !insideAnyR a b := by
  unfold allP insideAnyR
  rw [List.not_any_eq_all_not, Bool.eq_iff_iff]
  simp only [List.all_eq_true]
  constructor
  · intro h1 v hv
    have := h1 v hv
    rw [← whereV_eq]
    simp only [beq_iff_eq] at this
    rw [this]; rfl
  · intro h1 v hv
    have := h1 v hv
    rw [← whereV_eq] at this
    rcases whereVP_range b v with e | e | e
    · rw [e]; rfl
    · exfalso
      obtain ⟨s, hs, ho⟩ := whereVP_one e
      exact apart_no_touch ha h hv hs ho
    · rw [e] at this; cases this
theorem nthR_mem {l : List Ring} {i : Nat} (h : i < l.length) : nthR l i ∈ l := by
  unfold nthR
  rw [List.getD_eq_getElem?_getD, List.getElem?_eq_getElem h]
  exact List.getElem_mem h
theorem mem_nthR {l : List Ring} {r : Ring} (h : r ∈ l) : ∃ i, i < l.length ∧ r = nthR l i := by
  obtain ⟨i, hi, e⟩ := List.getElem_of_mem h
  exact ⟨i, hi, by unfold nthR; rw [List.getD_eq_getElem?_getD, List.getElem?_eq_getElem hi]; exact e.symm⟩
structure VS (s : Shape) : Prop where
  few : s.holes.length ≤ 6
  outer : VR s.outer
  hole : ∀ i, i < s.holes.length → VR (nthR s.holes i)
  corners : cornersS s ≤ 80
  ins : ∀ i, i < s.holes.length → allP (nthR s.holes i) s.outer 2 = true
  apo : ∀ i, i < s.holes.length → apartP (nthR s.holes i) s.outer = true
  aph : ∀ i k, k < i → i < s.holes.length → apartP (nthR s.holes i) (nthR s.holes k) = true
  out1 : ∀ i k, k < i → i < s.holes.length → allP (nthR s.holes i) (nthR s.holes k) 0 = true
  out2 : ∀ i k, k < i → i < s.holes.length → allP (nthR s.holes k) (nthR s.holes i) 0 = true
theorem validSP_iff (s : Shape) : validSP s = true ↔ VS s := by
  unfold validSP
  simp only [Bool.and_eq_true, decide_eq_true_eq, List.all_eq_true, List.mem_range]
  constructor
  · rintro ⟨⟨⟨h1, h2⟩, h3⟩, h4⟩
    exact ⟨h1, (validP_iff _).1 (h2 _ (by simp [ringsS])), fun i hi => (validP_iff _).1 (h2 _ (by simp [ringsS]; exact .inr (nthR_mem hi))), h3, fun i hi => (h4 i hi).1.1, fun i hi => (h4 i hi).1.2, fun i k hk hi => ((h4 i hi).2 k hk).1.1, fun i k hk hi => ((h4 i hi).2 k hk).1.2, fun i k hk hi => ((h4 i hi).2 k hk).2⟩
  · rintro ⟨h1, h2, h3, h4, h5, h6, h7, h8, h9⟩
    refine ⟨⟨⟨h1, ?_⟩, h4⟩, fun i hi => ⟨⟨h5 i hi, h6 i hi⟩, fun k hk => ⟨⟨h7 i k hk hi, h8 i k hk hi⟩, h9 i k hk hi⟩⟩⟩
    intro r hr
    unfold ringsS at hr
    rcases List.mem_cons.1 hr with rfl | hr
    · exact (validP_iff _).2 h2
    · obtain ⟨i, hi, rfl⟩ := mem_nthR hr
      exact (validP_iff _).2 (h3 i hi)
theorem validS_eq (s : Shape) : validSP s = validSR s := by
  rw [Bool.eq_iff_iff, validSP_iff]
  unfold validSR
  simp only [Bool.and_eq_true, decide_eq_true_eq, List.all_eq_true, List.mem_range, ← apart_meets]
  constructor
  · rintro ⟨h1, h2, h3, h4, h5, h6, h7, h8, h9⟩
    refine ⟨⟨⟨h1, by rw [← valid_eq]; exact (validP_iff _).2 h2⟩, fun i hi => ⟨⟨⟨by rw [← valid_eq]; exact (validP_iff _).2 (h3 i hi), h6 i hi⟩, ?_⟩, fun k hk => ⟨⟨h7 i k hk hi, ?_⟩, ?_⟩⟩⟩, h4⟩
    · have := h5 i hi
      unfold allP at this
      unfold insideAllR
      rw [List.all_eq_true] at this ⊢
      intro v hv; rw [← whereV_eq]; exact this v hv
    · rw [← all_any (h3 i hi) (h7 i k hk hi)]; exact h8 i k hk hi
    · rw [← all_any (h3 k (by omega)) (by rw [apartP_comm]; exact h7 i k hk hi)]; exact h9 i k hk hi
  · rintro ⟨⟨⟨h1, h2⟩, h3⟩, h4⟩
    have hr : ∀ i, i < s.holes.length → VR (nthR s.holes i) := fun i hi => by have := (h3 i hi).1.1.1; rw [← valid_eq] at this; exact (validP_iff _).1 this
    refine ⟨h1, by rw [← valid_eq] at h2; exact (validP_iff _).1 h2, hr, h4, fun i hi => ?_, fun i hi => (h3 i hi).1.1.2, fun i k hk hi => ((h3 i hi).2 k hk).1.1, fun i k hk hi => ?_, fun i k hk hi => ?_⟩
    · have := (h3 i hi).1.2
      unfold insideAllR at this
      unfold allP
      rw [List.all_eq_true] at this ⊢
      intro v hv; rw [whereV_eq]; exact this v hv
    · rw [all_any (hr i hi) ((h3 i hi).2 k hk).1.1]; exact ((h3 i hi).2 k hk).1.2
    · rw [all_any (hr k (by omega)) (by rw [apartP_comm]; exact ((h3 i hi).2 k hk).1.1)]; exact ((h3 i hi).2 k hk).2
end Go.Proofs.YtdaeofhdgabhjaaGreat.Geo
namespace Go.Proofs.YtdaeofhdgabhjaaGreat.Geo
def leastUp (r : Ring) : Nat → Nat
  | 0 => 0
  | n + 1 => if lessV (nth r n) (nth r (leastUp r n)) then n else leastUp r n
def leastIx (r : Ring) : Nat := leastUp r r.length
def begin (r : Ring) : Ring := r.drop (leastIx r) ++ r.take (leastIx r)
theorem leastUp_lt (r : Ring) (n : Nat) (h : 0 < n) : leastUp r n < n := by
  induction n with
  | zero => omega
  | succ n ih =>
    unfold leastUp
    split
    · omega
    · rcases Nat.eq_zero_or_pos n with rfl | h0
      · simp [leastUp]
      · have := ih h0; omega
theorem leastUp_le (r : Ring) (n i : Nat) (hi : i < n) : leV (nth r (leastUp r n)) (nth r i) := by
  induction n with
  | zero => omega
  | succ n ih =>
    unfold leastUp
    split
    · rename_i h
      have h := (lessV_iff _ _).1 h
      have h' : leV (nth r n) (nth r (leastUp r n)) := (leV_total _ _).elim id (fun x => absurd x h)
      by_cases e : i = n
      · subst e; exact leV_refl _
      · exact leV_trans h' (ih (by omega))
    · rename_i h
      have h := (lessV_false _ _).1 (by simpa using h)
      by_cases e : i = n
      · subst e; exact h
      · exact ih (by omega)
theorem leastUp_first (r : Ring) (n i : Nat) (hi : i < leastUp r n) : lessV (nth r (leastUp r n)) (nth r i) = true := by
  induction n with
  | zero => simp [leastUp] at hi
  | succ n ih =>
    unfold leastUp at hi ⊢
    split
    · rename_i h
      rw [if_pos h] at hi
      rw [lessV_iff]
      have h1 := (lessV_iff _ _).1 h
      intro h2
      exact h1 (leV_trans (leastUp_le r n i hi) h2)
    · rename_i h
      rw [if_neg h] at hi
      exact ih hi
theorem leastIx_lt {r : Ring} (h : 0 < r.length) : leastIx r < r.length := leastUp_lt r _ h
theorem leastIx_unique {r : Ring} {k : Nat} (hk : k < r.length) (h1 : ∀ i, i < r.length → leV (nth r k) (nth r i)) (h2 : ∀ i, i < k → nth r i ≠ nth r k) : k = leastIx r := by
  have a := leastIx_lt (r := r) (by omega)
  have b := leastUp_le r r.length k hk
  have e : nth r k = nth r (leastIx r) := leV_anti (h1 _ a) b
  rcases Nat.lt_trichotomy k (leastIx r) with h | h | h
  · have := leastUp_first r r.length k h
    rw [show leastUp r r.length = leastIx r from rfl, ← e, lessV_irrefl] at this; cases this
  · exact h
  · exact absurd e.symm (h2 _ h)
theorem begin_perm (r : Ring) : (begin r).Perm r := by
  unfold begin
  refine List.perm_append_comm.trans ?_
  rw [List.take_append_drop]
theorem begin_length (r : Ring) : (begin r).length = r.length := (begin_perm r).length_eq
theorem nth_begin {r : Ring} {i : Nat} (hi : i < r.length) : nth (begin r) i = nth r ((i + leastIx r) % r.length) := by
  have hk := leastIx_lt (r := r) (by omega)
  unfold begin nth
  rw [List.getD_eq_getElem?_getD, List.getD_eq_getElem?_getD]
  congr 1
  by_cases h : i < r.length - leastIx r
  · rw [List.getElem?_append_left (by simp; omega), List.getElem?_drop, mod_small (by omega)]
    congr 1; omega
  · rw [List.getElem?_append_right (by simp; omega), List.getElem?_take_of_lt (by simp; omega), mod_wrap (by omega) (by omega)]
    congr 1; simp; omega
theorem mem_edges_begin (r : Ring) (s : S) : s ∈ edges (begin r) ↔ s ∈ edges r := by
  rw [mem_edges, mem_edges, begin_length]
  constructor
  · rintro ⟨h2, i, hi, rfl⟩
    have hk := leastIx_lt (r := r) (by omega)
    refine ⟨h2, (i + leastIx r) % r.length, Nat.mod_lt _ (by omega), ?_⟩
    unfold edge nxt
    rw [begin_length, nth_begin hi, nth_begin (Nat.mod_lt _ (by omega)), Nat.mod_add_mod, Nat.mod_add_mod]
    congr 3; omega
  · rintro ⟨h2, i, hi, rfl⟩
    have hk := leastIx_lt (r := r) (by omega)
    refine ⟨h2, (i + (r.length - leastIx r)) % r.length, Nat.mod_lt _ (by omega), ?_⟩
    unfold edge nxt
    rw [begin_length, nth_begin (Nat.mod_lt _ (by omega)), nth_begin (Nat.mod_lt _ (by omega)), Nat.mod_add_mod, Nat.mod_add_mod]
    have e1 : (i + (r.length - leastIx r) + leastIx r) % r.length = i := by
      rw [show i + (r.length - leastIx r) + leastIx r = i + r.length from by omega, Nat.add_mod_right, mod_small hi]
    have e2 : (i + (r.length - leastIx r) + 1 + leastIx r) % r.length = (i + 1) % r.length := by
      rw [show i + (r.length - leastIx r) + 1 + leastIx r = i + 1 + r.length from by omega, Nat.add_mod_right]
    rw [e1, Nat.add_assoc _ 1 (leastIx r), Nat.mod_add_mod, ← Nat.add_assoc _ 1 (leastIx r), e2]
theorem VR.touch {r : Ring} (h : VR r) {i k : Nat} (hi : i < r.length) (hk : k < r.length) (ho : onS (edge r k) (nth r i) = true) : i = k ∨ i = (k + 1) % r.length := by
  have h3 := h.three
  have hb : onS (edge r i) (nth r i) = true := onS_a (s := edge r i) (near_edge h.near i hi)
  have hj : (i + r.length - 1) % r.length < r.length := Nat.mod_lt _ (by omega)
  have hje : ((i + r.length - 1) % r.length + 1) % r.length = i := by
    rw [Nat.mod_add_mod, show i + r.length - 1 + 1 = i + r.length from by omega, Nat.add_mod_right, mod_small hi]
  have hb2 : onS (edge r ((i + r.length - 1) % r.length)) (nth r i) = true := by
    have := onS_b (s := edge r ((i + r.length - 1) % r.length)) (near_edge h.near _ hj)
    unfold edge nxt at this
    simp only [hje] at this
    unfold edge nxt
    rw [hje]
    exact this
  have meetsE : ∀ j, j < r.length → onS (edge r j) (nth r i) = true → (nth r i = nth r j ∨ nth r i = nxt r j) → j = k ∨ (j + 1) % r.length = k ∨ (k + 1) % r.length = j := by
    intro j hj hoj hend
    rcases Nat.lt_trichotomy j k with hlt | he | hgt
    · by_cases h1 : k = j + 1
      · right; left; rw [mod_small (by omega)]; exact h1.symm
      · by_cases h2 : j = 0 ∧ k = r.length - 1
        · right; right; rw [h2.2, h2.1, show r.length - 1 + 1 = r.length from by omega, Nat.mod_self]
        · exfalso
          have := h.apart j k hlt hk h1 h2
          exact meet_ne_zero (s := edge r j) (t := edge r k) (p := nth r i) (by rcases hend with e | e <;> simp [edge, e]) ⟨hoj, ho⟩ this
    · exact .inl he
    · by_cases h1 : j = k + 1
      · right; right; rw [mod_small (by omega)]; exact h1.symm
      · by_cases h2 : k = 0 ∧ j = r.length - 1
        · right; left; rw [h2.2, h2.1, show r.length - 1 + 1 = r.length from by omega, Nat.mod_self]
        · exfalso
          have := h.apart k j hgt hj h1 h2
          exact meet_ne_zero (s := edge r k) (t := edge r j) (p := nth r i) (by rcases hend with e | e <;> simp [edge, e]) ⟨ho, hoj⟩ this
  have c1 := meetsE i hi hb (.inl rfl)
  rcases c1 with e | e | e
  · exact .inl e
  · -- k = i + 1
    have c2 := meetsE _ hj hb2 (.inr (by unfold nxt; rw [hje]))
    rcases c2 with e2 | e2 | e2
    · right; rw [← e2, hje]
    · left; rw [hje] at e2; exact e2
    · -- k + 1 = i - 1 and k = i + 1: three vertices
      exfalso
      have hk1 : (k + 1) % r.length = (i + 2) % r.length := by rw [← e, Nat.mod_add_mod]
      have hn3 : r.length = 3 := by
        rw [hk1] at e2
        by_cases hz : i = 0
        · subst hz
          rw [mod_small (show 0 + r.length - 1 < r.length by omega), mod_small (show 0 + 2 < r.length by omega)] at e2
          omega
        · rw [mod_wrap (show r.length ≤ i + r.length - 1 by omega) (by omega)] at e2
          by_cases hz2 : i + 2 < r.length
          · rw [mod_small hz2] at e2; omega
          · rw [mod_wrap (by omega) (by omega)] at e2; omega
      apply h.turn' i hi
      have := ((onS_iff (near_edge h.near k hk)).1 ho).2
      rw [turn_rot]
      unfold Geo.turn
      rw [sgn_zero]
      unfold edge nxt at this
      simp only at this
      rw [e, ← hk1]
      exact this
  · exact .inr e.symm
theorem VR.inj {r : Ring} (h : VR r) {i k : Nat} (hi : i < r.length) (hk : k < r.length) (he : nth r i = nth r k) : i = k := by
  have h3 := h.three
  have ho : onS (edge r k) (nth r i) = true := by rw [he]; exact onS_a (s := edge r k) (near_edge h.near k hk)
  rcases h.touch hi hk ho with e | e
  · exact e
  · -- i is the next of k: then k on the edge i, too
    exfalso
    have ho2 : onS (edge r i) (nth r k) = true := by rw [← he]; exact onS_a (s := edge r i) (near_edge h.near i hi)
    have ht := h.turn' k hk
    apply ht
    rw [← e, he]
    unfold Geo.turn; rw [sgn_zero]
    simp [cross, sub]
theorem VR.nodup {r : Ring} (h : VR r) : r.Nodup := by
  rw [List.nodup_iff_pairwise_ne, List.pairwise_iff_getElem]
  intro i j hi hj hij e
  have := h.inj hi hj (by unfold nth; rw [List.getD_eq_getElem?_getD, List.getD_eq_getElem?_getD, List.getElem?_eq_getElem hi, List.getElem?_eq_getElem hj]; simpa using e)
  omega
theorem VR.touch_end {r : Ring} (h : VR r) {v : V} (hv : v ∈ r) {s : S} (hs : s ∈ edges r) (ho : onS s v = true) : v = s.a ∨ v = s.b := by
  obtain ⟨i, hi, rfl⟩ := mem_nth.1 hv
  obtain ⟨_, k, hk, rfl⟩ := mem_edges.1 hs
  rcases h.touch hi hk ho with e | e
  · left; rw [e]; rfl
  · right; rw [e]; rfl
def vertsS (s : Shape) : List V := (ringsS s).flatten
def edgesS (s : Shape) : List S := (ringsS s).flatMap edges
theorem VS.ring {s : Shape} (h : VS s) {r : Ring} (hr : r ∈ ringsS s) : VR r := by
  unfold ringsS at hr
  rcases List.mem_cons.1 hr with rfl | hr
  · exact h.outer
  · obtain ⟨i, hi, rfl⟩ := mem_nthR hr; exact h.hole i hi
theorem VS.pair {s : Shape} (h : VS s) : (ringsS s).Pairwise (fun a b => apartP a b = true) := by
  unfold ringsS
  rw [List.pairwise_cons]
  refine ⟨fun r hr => ?_, ?_⟩
  · obtain ⟨i, hi, rfl⟩ := mem_nthR hr
    rw [apartP_comm]; exact h.apo i hi
  · rw [List.pairwise_iff_getElem]
    intro i k hi hk hik
    have := h.aph k i hik hk
    unfold nthR at this
    rw [List.getD_eq_getElem?_getD, List.getD_eq_getElem?_getD, List.getElem?_eq_getElem hi, List.getElem?_eq_getElem hk] at this
    rw [apartP_comm]; exact this
theorem pair_touch : ∀ (l : List Ring), (∀ r ∈ l, VR r) → l.Pairwise (fun a b => apartP a b = true) → ∀ v ∈ l.flatten, ∀ e ∈ l.flatMap edges, onS e v = true → v = e.a ∨ v = e.b
  | [], _, _, v, hv, _, _, _ => by simp at hv
  | r :: l, hr, hp, v, hv, e, he, ho => by
    rw [List.pairwise_cons] at hp
    rw [List.flatten_cons, List.mem_append] at hv
    rw [List.flatMap_cons, List.mem_append] at he
    rcases hv with hv | hv <;> rcases he with he | he
    · exact (hr r (by simp)).touch_end hv he ho
    · rw [List.mem_flatMap] at he
      obtain ⟨q, hq, he⟩ := he
      exact (apart_no_touch (hr r (by simp)) (hp.1 q hq) hv he ho).elim
    · rw [List.mem_flatten] at hv
      obtain ⟨q, hq, hv⟩ := hv
      exact (apart_no_touch (hr q (by simp [hq])) (by rw [apartP_comm]; exact hp.1 q hq) hv he ho).elim
    · exact pair_touch l (fun x hx => hr x (by simp [hx])) hp.2 v hv e he ho
theorem pair_nodup : ∀ (l : List Ring), (∀ r ∈ l, VR r) → l.Pairwise (fun a b => apartP a b = true) → l.flatten.Nodup
  | [], _, _ => by simp
  | r :: l, hr, hp => by
    rw [List.pairwise_cons] at hp
    rw [List.flatten_cons, List.nodup_append]
    refine ⟨(hr r (by simp)).nodup, pair_nodup l (fun x hx => hr x (by simp [hx])) hp.2, ?_⟩
    rintro a ha b hb rfl
    rw [List.mem_flatten] at hb
    obtain ⟨q, hq, hb⟩ := hb
    have hvq := hr q (by simp [hq])
    obtain ⟨i, hi, rfl⟩ := mem_nth.1 hb
    exact apart_no_touch (hr r (by simp)) (hp.1 q hq) ha (mem_edges.2 ⟨by have := hvq.three; omega, i, hi, rfl⟩) (onS_a (s := edge q i) (near_edge hvq.near i hi))
theorem VS.touch {s : Shape} (h : VS s) {v : V} (hv : v ∈ vertsS s) {e : S} (he : e ∈ edgesS s) (ho : onS e v = true) : v = e.a ∨ v = e.b :=
  pair_touch _ (fun _ hr => h.ring hr) h.pair v hv e he ho
theorem VS.nodup {s : Shape} (h : VS s) : (vertsS s).Nodup := pair_nodup _ (fun _ hr => h.ring hr) h.pair
end Go.Proofs.YtdaeofhdgabhjaaGreat.Geo
namespace Go.Proofs.YtdaeofhdgabhjaaGreat.Geo
def insH : List Ring → Ring → List Ring
  | [], h => [h]
  | q :: l, h => if lessV (nth q 0) (nth h 0) then q :: insH l h else h :: q :: l
def sortH (l : List Ring) : List Ring := l.foldl insH []
def canonS (s : Shape) : Shape := ⟨begin s.outer, sortH (s.holes.map begin)⟩
theorem insH_perm (l : List Ring) (h : Ring) : (insH l h).Perm (h :: l) := by
  induction l with
  | nil => exact List.Perm.refl _
  | cons q l ih =>
    unfold insH
    split
    · exact (List.Perm.cons q ih).trans (List.Perm.swap h q l)
    · exact List.Perm.refl _
theorem foldl_insH_perm (l acc : List Ring) : (l.foldl insH acc).Perm (acc ++ l) := by
  induction l generalizing acc with
  | nil => simp
  | cons q l ih =>
    rw [List.foldl_cons]
    refine (ih _).trans ?_
    refine ((insH_perm acc q).append_right l).trans ?_
    rw [List.cons_append]
    exact List.perm_middle.symm
theorem sortH_perm (l : List Ring) : (sortH l).Perm l := by
  unfold sortH
  have := foldl_insH_perm l []
  rwa [List.nil_append] at this
def leH (a b : Ring) : Prop := leV (nth a 0) (nth b 0)
theorem insH_sorted (l : List Ring) (h : Ring) (hl : l.Pairwise leH) : (insH l h).Pairwise leH := by
  induction l with
  | nil => simp [insH]
  | cons q l ih =>
    rw [List.pairwise_cons] at hl
    unfold insH
    split
    · rename_i hq
      rw [List.pairwise_cons]
      refine ⟨fun x hx => ?_, ih hl.2⟩
      have hx := (insH_perm l h).subset hx
      rcases List.mem_cons.1 hx with rfl | hx
      · exact (leV_total _ _).elim id (fun e => absurd e ((lessV_iff _ _).1 hq))
      · exact hl.1 x hx
    · rename_i hq
      have hq := (lessV_false _ _).1 (by simpa using hq)
      rw [List.pairwise_cons, List.pairwise_cons]
      refine ⟨fun x hx => ?_, hl⟩
      rcases List.mem_cons.1 hx with rfl | hx
      · exact hq
      · exact leV_trans hq (hl.1 x hx)
theorem foldl_insH_sorted (l acc : List Ring) (h : acc.Pairwise leH) : (l.foldl insH acc).Pairwise leH := by
  induction l generalizing acc with
  | nil => exact h
  | cons q l ih => exact ih _ (insH_sorted acc q h)
theorem sortH_sorted (l : List Ring) : (sortH l).Pairwise leH := foldl_insH_sorted l [] List.Pairwise.nil
theorem flatten_unique : ∀ (l : List Ring), l.flatten.Nodup → ∀ a ∈ l, ∀ b ∈ l, ∀ x, x ∈ a → x ∈ b → a = b
  | [], _, a, ha, _, _, _, _, _ => by cases ha
  | r :: l, h, a, ha, b, hb, x, hxa, hxb => by
    rw [List.flatten_cons, List.nodup_append] at h
    obtain ⟨h1, h2, h3⟩ := h
    rcases List.mem_cons.1 ha with ea | ha' <;> rcases List.mem_cons.1 hb with eb | hb'
    · rw [ea, eb]
    · rw [ea] at hxa; exact (h3 x hxa x (List.mem_flatten.2 ⟨_, hb', hxb⟩) rfl).elim
    · rw [eb] at hxb; exact (h3 x hxb x (List.mem_flatten.2 ⟨_, ha', hxa⟩) rfl).elim
    · exact flatten_unique l h2 a ha' b hb' x hxa hxb
theorem flatten_map_begin (l : List Ring) : ((l.map begin).flatten).Perm l.flatten := by
  induction l with
  | nil => exact List.Perm.refl _
  | cons r l ih =>
    rw [List.map_cons, List.flatten_cons, List.flatten_cons]
    exact (begin_perm r).append ih
theorem canon_verts (s : Shape) : (vertsS (canonS s)).Perm (vertsS s) := by
  unfold vertsS ringsS canonS
  simp only [List.flatten_cons]
  refine (begin_perm _).append ?_
  exact ((sortH_perm _).flatten).trans (flatten_map_begin _)
theorem sortH_unique {s : Shape} (h : VS s) {l : List Ring} (hp : l.Perm (s.holes.map begin)) (hs : l.Pairwise leH) : l = sortH (s.holes.map begin) := by
  have hn := h.nodup
  unfold vertsS ringsS at hn
  rw [List.flatten_cons, List.nodup_append] at hn
  have hn2 : ((s.holes.map begin).flatten).Nodup := (flatten_map_begin s.holes).nodup_iff.2 hn.2.1
  refine List.Perm.eq_of_pairwise ?_ hs (sortH_sorted _) (hp.trans (sortH_perm _).symm)
  intro a b ha hb h1 h2
  have ha := hp.subset ha
  have hb := (sortH_perm _).subset hb
  have hne : ∀ r ∈ s.holes.map begin, nth r 0 ∈ r := by
    intro r hr
    obtain ⟨q, hq, rfl⟩ := List.mem_map.1 hr
    have h3 := (h.ring (show q ∈ ringsS s by simp [ringsS, hq])).three
    exact mem_nth.2 ⟨0, by rw [begin_length]; omega, rfl⟩
  have e : nth a 0 = nth b 0 := leV_anti h1 h2
  exact flatten_unique _ hn2 a ha b hb (nth a 0) (hne a ha) (by rw [e]; exact hne b hb)
theorem mem_edgesS_canon (s : Shape) (e : S) : e ∈ edgesS (canonS s) ↔ e ∈ edgesS s := by
  unfold edgesS ringsS canonS
  simp only [List.flatMap_cons, List.mem_append, List.mem_flatMap, mem_edges_begin]
  constructor
  · rintro (h | ⟨r, hr, he⟩)
    · exact .inl h
    · have hr := (sortH_perm _).subset hr
      obtain ⟨q, hq, rfl⟩ := List.mem_map.1 hr
      exact .inr ⟨q, hq, (mem_edges_begin q e).1 he⟩
  · rintro (h | ⟨r, hr, he⟩)
    · exact .inl h
    · refine .inr ⟨begin r, (sortH_perm _).symm.subset (List.mem_map.2 ⟨r, hr, rfl⟩), (mem_edges_begin r e).2 he⟩
def holesP (p : Pt) : List Ring → Int → Int
  | [], w => w
  | h :: l, w => if whereP h p = 2 then 0 else if whereP h p = 1 then 1 else holesP p l w
def whereSP (s : Shape) (p : Pt) : Int :=
  if !(validSP s) then 0 else if whereP s.outer p ≠ 2 then whereP s.outer p else holesP p s.holes 2
def holesR (p : Pt) : List Ring → Int → Int
  | [], w => w
  | h :: l, w => if whereR h p = 2 then 0 else if whereR h p = 1 then 1 else holesR p l w
def whereSR (s : Shape) (p : Pt) : Int := if !(validSR s) then 0 else holesR p s.holes (whereR s.outer p)
theorem holes_eq (p : Pt) (l : List Ring) (w : Int) : holesP p l w = holesR p l w := by
  induction l with
  | nil => rfl
  | cons h l ih => unfold holesP holesR; rw [where_eq, ih]
theorem holesR_two (p : Pt) (l : List Ring) (w : Int) : holesR p l w = 2 → w = 2 := by
  induction l with
  | nil => exact id
  | cons h l ih => unfold holesR; split; omega; split; omega; exact ih
theorem whereS_two (s : Shape) (p : Pt) : (whereSP s p == 2) = (whereSR s p == 2) := by
  unfold whereSP whereSR
  rw [validS_eq, where_eq]
  cases validSR s with
  | false => rfl
  | true =>
    simp only [Bool.not_true, Bool.false_eq_true, if_false]
    by_cases h : whereR s.outer p = 2
    · rw [if_neg (by omega), h, holes_eq]
    · rw [if_pos h, Bool.eq_iff_iff, beq_iff_eq, beq_iff_eq]
      exact ⟨fun e => absurd e h, fun e => absurd (holesR_two _ _ _ e) h⟩
def middleP (c : S) : Pt :=
  if (c.a.x + c.b.x).tmod 2 = 0 ∧ (c.a.y + c.b.y).tmod 2 = 0 then ⟨(c.a.x + c.b.x).tdiv 2, (c.a.y + c.b.y).tdiv 2, 1⟩ else ⟨c.a.x + c.b.x, c.a.y + c.b.y, 2⟩
def sumX (l : List V) : Int := (l.map V.x).sum
def sumY (l : List V) : Int := (l.map V.y).sum
def middleR (l : List V) : Pt :=
  let g : Int := Nat.gcd (Nat.gcd (sumX l).natAbs (sumY l).natAbs) l.length
  ⟨(sumX l).tdiv g, (sumY l).tdiv g, (l.length : Int).tdiv g⟩
theorem tmod_dvd (x : Int) (k : Nat) : x.tmod k = 0 ↔ k ∣ x.natAbs := by
  rw [← Int.dvd_iff_tmod_eq_zero, Int.ofNat_dvd_left]
theorem middle_eq2 (a b : V) : middleR [a, b] = middleP ⟨a, b⟩ := by
  unfold middleR middleP sumX sumY
  simp only [List.map_cons, List.map_nil, List.sum_cons, List.sum_nil, Int.add_zero, List.length_cons, List.length_nil]
  generalize a.x + b.x = x
  generalize a.y + b.y = y
  have hd : Nat.gcd (Nat.gcd x.natAbs y.natAbs) 2 ∣ 2 := Nat.gcd_dvd_right _ _
  have hle := Nat.le_of_dvd (by omega) hd
  have hpos : 0 < Nat.gcd (Nat.gcd x.natAbs y.natAbs) 2 := Nat.gcd_pos_of_pos_right _ (by omega)
  by_cases h : x.tmod 2 = 0 ∧ y.tmod 2 = 0
  · have e : Nat.gcd (Nat.gcd x.natAbs y.natAbs) 2 = 2 := Nat.gcd_eq_right (Nat.dvd_gcd ((tmod_dvd x 2).1 h.1) ((tmod_dvd y 2).1 h.2))
    rw [if_pos h, show (0 + 1 + 1 : Nat) = 2 from rfl, e]
    rfl
  · have e : Nat.gcd (Nat.gcd x.natAbs y.natAbs) 2 = 1 := by
      rcases Nat.lt_or_ge (Nat.gcd (Nat.gcd x.natAbs y.natAbs) 2) 2 with h1 | h1
      · omega
      · exfalso
        have e2 : Nat.gcd (Nat.gcd x.natAbs y.natAbs) 2 = 2 := by omega
        have d1 : 2 ∣ Nat.gcd x.natAbs y.natAbs := by
          have := Nat.gcd_dvd_left (Nat.gcd x.natAbs y.natAbs) 2
          rwa [e2] at this
        exact h ⟨(tmod_dvd x 2).2 (Nat.dvd_trans d1 (Nat.gcd_dvd_left _ _)), (tmod_dvd y 2).2 (Nat.dvd_trans d1 (Nat.gcd_dvd_right _ _))⟩
    rw [if_neg h, show (0 + 1 + 1 : Nat) = 2 from rfl, e]
    simp
def centerP (a b c : V) : Pt :=
  if (a.x + b.x + c.x).tmod 3 = 0 ∧ (a.y + b.y + c.y).tmod 3 = 0 then ⟨(a.x + b.x + c.x).tdiv 3, (a.y + b.y + c.y).tdiv 3, 1⟩ else ⟨a.x + b.x + c.x, a.y + b.y + c.y, 3⟩
theorem middle_eq3 (a b c : V) : middleR [a, b, c] = centerP a b c := by
  unfold middleR centerP sumX sumY
  simp only [List.map_cons, List.map_nil, List.sum_cons, List.sum_nil, Int.add_zero, List.length_cons, List.length_nil]
  rw [← Int.add_assoc, ← Int.add_assoc]
  generalize a.x + b.x + c.x = x
  generalize a.y + b.y + c.y = y
  have hd : Nat.gcd (Nat.gcd x.natAbs y.natAbs) 3 ∣ 3 := Nat.gcd_dvd_right _ _
  have hle := Nat.le_of_dvd (by omega) hd
  have hpos : 0 < Nat.gcd (Nat.gcd x.natAbs y.natAbs) 3 := Nat.gcd_pos_of_pos_right _ (by omega)
  have h13 : Nat.gcd (Nat.gcd x.natAbs y.natAbs) 3 = 1 ∨ Nat.gcd (Nat.gcd x.natAbs y.natAbs) 3 = 3 := by
    generalize Nat.gcd (Nat.gcd x.natAbs y.natAbs) 3 = g at *
    obtain ⟨q, hq⟩ := hd
    match g, hle, hpos with
    | 1, _, _ => exact .inl rfl
    | 2, _, _ => omega
    | 3, _, _ => exact .inr rfl
  by_cases h : x.tmod 3 = 0 ∧ y.tmod 3 = 0
  · have e : Nat.gcd (Nat.gcd x.natAbs y.natAbs) 3 = 3 := Nat.gcd_eq_right (Nat.dvd_gcd ((tmod_dvd x 3).1 h.1) ((tmod_dvd y 3).1 h.2))
    rw [if_pos h, show (0 + 1 + 1 + 1 : Nat) = 3 from rfl, e]
    rfl
  · have e : Nat.gcd (Nat.gcd x.natAbs y.natAbs) 3 = 1 := by
      rcases h13 with h1 | e2
      · exact h1
      · exfalso
        have d1 : 3 ∣ Nat.gcd x.natAbs y.natAbs := by
          have := Nat.gcd_dvd_left (Nat.gcd x.natAbs y.natAbs) 3
          rwa [e2] at this
        exact h ⟨(tmod_dvd x 3).2 (Nat.dvd_trans d1 (Nat.gcd_dvd_left _ _)), (tmod_dvd y 3).2 (Nat.dvd_trans d1 (Nat.gcd_dvd_right _ _))⟩
    rw [if_neg h, show (0 + 1 + 1 + 1 : Nat) = 3 from rfl, e]
    simp
end Go.Proofs.YtdaeofhdgabhjaaGreat.Geo
namespace Go.Proofs.YtdaeofhdgabhjaaGreat.Geo
def shares (s t : S) : Bool := s.a == t.a || s.a == t.b || s.b == t.a || s.b == t.b
def atEnds (s t : S) : Bool := meetP s t == 0 || (meetP s t == 1 && shares s t)
def chordP (s : Shape) (c : S) : Bool := (edgesS s).all (fun e => atEnds e c) && whereSP s (middleP c) == 2
def edgeOK (d e : S) : Bool :=
  if meetR d e = 2 ∨ meetR d e = 3 then false
  else if meetR d e = 1 then (nth (commonR d e) 0 == d.a || nth (commonR d e) 0 == d.b) else true
def chordR (s : Shape) (c : S) : Bool := (edgesS s).all (fun e => edgeOK c e) && (c.a != c.b && whereSR s (middleR [c.a, c.b]) == 2)
theorem meetP_range (s t : S) : meetP s t = 0 ∨ meetP s t = 1 ∨ meetP s t = 2 ∨ meetP s t = 3 := by
  unfold meetP linesK
  simp only
  repeat' split
  all_goals simp
theorem touch_one {s t : S} (h : meetP s t = 1) : (validS s = true ∧ validS t = true) ∧ ∃ z, z ∈ ends s t ∧ onBoth s t z ∧ (∀ p, p ∈ ends s t → onBoth s t p → p = z) ∧ commonR s t = [z] := by
  rw [meet_eq] at h
  have hm := mem_commonR s t
  unfold meetR at h
  split at h
  · omega
  · rename_i hv
    split at h
    · omega
    · split at h
      · rename_i h1
        refine ⟨by simp at hv; exact hv, ?_⟩
        match hc : commonR s t, h1 with
        | [z], _ =>
          rw [hc] at hm
          have hz := (hm z).1 (by simp)
          exact ⟨z, hz.1, hz.2, fun p hp ho => by have := (hm p).2 ⟨hp, ho⟩; simpa using this, rfl⟩
      · split at h <;> omega
theorem over_two {s t : S} (h : meetP s t = 3) : ∃ p q, p ≠ q ∧ p ∈ ends s t ∧ q ∈ ends s t ∧ onBoth s t p ∧ onBoth s t q := by
  rw [meet_eq] at h
  have hm := mem_commonR s t
  have hs := sortedV_sorted ((ends s t).filter (fun p => onS s p && onS t p))
  rw [show sortedV ((ends s t).filter (fun p => onS s p && onS t p)) = commonR s t from rfl] at hs
  unfold meetR at h
  split at h
  · omega
  · split at h
    · rename_i h1
      match hc : commonR s t, h1 with
      | z :: y :: r, _ =>
        rw [hc] at hm hs
        have hz := (hm z).1 (by simp)
        have hy := (hm y).1 (by simp)
        refine ⟨z, y, ?_, hz.1, hy.1, hz.2, hy.2⟩
        rintro rfl
        rw [List.pairwise_cons] at hs
        have := hs.1 z (by simp)
        rw [lessV_irrefl] at this; cases this
    · split at h
      · omega
      · split at h <;> omega
theorem mem_ends (s t : S) (p : V) : p ∈ ends s t ↔ p = s.a ∨ p = s.b ∨ p = t.a ∨ p = t.b := by unfold ends; simp
theorem shares_iff (s t : S) : shares s t = true ↔ (s.a = t.a ∨ s.a = t.b ∨ s.b = t.a ∨ s.b = t.b) := by unfold shares; simp [or_assoc]
theorem edge_test {s : Shape} (h : VS s) {c e : S} (ha : c.a ∈ vertsS s) (hb : c.b ∈ vertsS s) (he : e ∈ edgesS s) : atEnds e c = edgeOK c e := by
  unfold atEnds edgeOK
  rw [meet_comm e c, ← meet_eq]
  rcases meetP_range c e with hk | hk | hk | hk
  · rw [hk]; simp
  · rw [if_neg (by omega), if_pos hk, hk]
    obtain ⟨⟨vc, ve⟩, z, hz, ho, hu, hcom⟩ := touch_one hk
    rw [hcom]
    rw [show nth [z] 0 = z from rfl]
    rw [Bool.eq_iff_iff]
    simp only [Bool.or_eq_true, beq_iff_eq, Bool.and_eq_true, shares_iff]
    constructor
    · rintro (h1 | ⟨_, h1⟩)
      · omega
      · rcases h1 with h1 | h1 | h1 | h1
        · left; exact (hu c.a (by rw [mem_ends]; simp) ⟨onS_a vc, by rw [← h1]; exact onS_a ve⟩).symm
        · right; exact (hu c.b (by rw [mem_ends]; simp) ⟨onS_b vc, by rw [← h1]; exact onS_a ve⟩).symm
        · left; exact (hu c.a (by rw [mem_ends]; simp) ⟨onS_a vc, by rw [← h1]; exact onS_b ve⟩).symm
        · right; exact (hu c.b (by rw [mem_ends]; simp) ⟨onS_b vc, by rw [← h1]; exact onS_b ve⟩).symm
    · rintro (h1 | h1)
      · right; refine ⟨trivial, ?_⟩
        have := h.touch ha he (by rw [← h1]; exact ho.2)
        rcases this with e1 | e1
        · exact .inl e1.symm
        · exact .inr (.inr (.inl e1.symm))
      · right; refine ⟨trivial, ?_⟩
        have := h.touch hb he (by rw [← h1]; exact ho.2)
        rcases this with e1 | e1
        · exact .inr (.inl e1.symm)
        · exact .inr (.inr (.inr e1.symm))
  · rw [hk]; simp
  · rw [hk]; simp
theorem chord_eq {s : Shape} (h : VS s) {c : S} (ha : c.a ∈ vertsS s) (hb : c.b ∈ vertsS s) (hne : c.a ≠ c.b) : chordP s c = chordR s c := by
  unfold chordP chordR
  rw [middle_eq2, whereS_two]
  have e1 : ((edgesS s).all fun e => atEnds e c) = ((edgesS s).all fun e => edgeOK c e) := by
    rw [Bool.eq_iff_iff, List.all_eq_true, List.all_eq_true]
    constructor
    · intro h1 e he; rw [← edge_test h ha hb he]; exact h1 e he
    · intro h1 e he; rw [edge_test h ha hb he]; exact h1 e he
  rw [e1]
  have e2 : (c.a != c.b) = true := by simpa using hne
  rw [e2, Bool.true_and]
theorem chord_touch {s : Shape} (h : VS s) {c : S} (hc : chordP s c = true) {p : V} (hp : p ∈ vertsS s) (ho : onS c p = true) : p = c.a ∨ p = c.b := by
  unfold vertsS at hp
  rw [List.mem_flatten] at hp
  obtain ⟨r, hr, hpr⟩ := hp
  have hvr := h.ring hr
  obtain ⟨i, hi, rfl⟩ := mem_nth.1 hpr
  have he : edge r i ∈ edgesS s := List.mem_flatMap.2 ⟨r, hr, mem_edges.2 ⟨by have := hvr.three; omega, i, hi, rfl⟩⟩
  have ve := near_edge hvr.near i hi
  unfold chordP at hc
  rw [Bool.and_eq_true, List.all_eq_true] at hc
  have ht := hc.1 _ he
  have hob : onBoth (edge r i) c (nth r i) := ⟨onS_a (s := edge r i) ve, ho⟩
  have hnz := meet_ne_zero (s := edge r i) (t := c) (p := nth r i) (by simp [edge]) hob
  unfold atEnds at ht
  simp only [Bool.or_eq_true, beq_iff_eq, Bool.and_eq_true, shares_iff] at ht
  rcases ht with ht | ⟨ht, hsh⟩
  · exact absurd ht hnz
  · obtain ⟨⟨_, vc⟩, z, _, _, hu, _⟩ := touch_one ht
    have e1 := hu (nth r i) (by rw [mem_ends]; simp [edge]) hob
    rw [e1]
    rcases hsh with h1 | h1 | h1 | h1
    · left; exact (hu c.a (by rw [mem_ends]; simp) ⟨by rw [← h1]; exact onS_a ve, onS_a vc⟩).symm
    · right; exact (hu c.b (by rw [mem_ends]; simp) ⟨by rw [← h1]; exact onS_a ve, onS_b vc⟩).symm
    · left; exact (hu c.a (by rw [mem_ends]; simp) ⟨by rw [← h1]; exact onS_b ve, onS_a vc⟩).symm
    · right; exact (hu c.b (by rw [mem_ends]; simp) ⟨by rw [← h1]; exact onS_b ve, onS_b vc⟩).symm
theorem chords_meet {s : Shape} (h : VS s) {c d : S} (hc : chordP s c = true) (hd : chordP s d = true) (c1 : c.a ∈ vertsS s) (c2 : c.b ∈ vertsS s) (d1 : d.a ∈ vertsS s) (d2 : d.b ∈ vertsS s)
    (hne : ¬ ((c.a = d.a ∧ c.b = d.b) ∨ (c.a = d.b ∧ c.b = d.a))) : atEnds c d = (meetR d c != 2) := by
  rw [← meet_eq, meet_comm d c]
  unfold atEnds
  have hends : ∀ p, p ∈ ends c d → onBoth c d p → (p = c.a ∨ p = c.b) ∧ (p = d.a ∨ p = d.b) := by
    intro p hp ho
    have hpv : p ∈ vertsS s := by rcases (mem_ends _ _ _).1 hp with rfl | rfl | rfl | rfl <;> assumption
    exact ⟨chord_touch h hc hpv ho.1, chord_touch h hd hpv ho.2⟩
  rcases meetP_range c d with hk | hk | hk | hk
  · rw [hk]; rfl
  · rw [hk]
    have : shares c d = true := by
      obtain ⟨_, z, hz, ho, _, _⟩ := touch_one hk
      obtain ⟨h1, h2⟩ := hends z hz ho
      rw [shares_iff]
      grind
    rw [this]; rfl
  · rw [hk]; rfl
  · exfalso
    obtain ⟨p, q, hpq, hp, hq, op, oq⟩ := over_two hk
    have h1 := hends p hp op
    have h2 := hends q hq oq
    grind
end Go.Proofs.YtdaeofhdgabhjaaGreat.Geo
namespace Go.Proofs.YtdaeofhdgabhjaaGreat.Geo
def segV (v : List V) (p : Nat × Nat) : S := ⟨nth v p.1, nth v p.2⟩
def stepP (s : Shape) (v : List V) (acc : List (Nat × Nat)) (i k : Nat) : List (Nat × Nat) :=
  if !(acc.any fun d => !(atEnds ⟨nth v i, nth v k⟩ (segV v d))) && chordP s ⟨nth v i, nth v k⟩ then acc ++ [(i, k)] else acc
def rowP (s : Shape) (v : List V) (acc : List (Nat × Nat)) (i : Nat) : Nat → List (Nat × Nat)
  | 0 => acc
  | m + 1 => stepP s v (rowP s v acc i m) i (i + 1 + m)
def pairsUp (s : Shape) (v : List V) : Nat → List (Nat × Nat)
  | 0 => []
  | i + 1 => rowP s v (pairsUp s v i) i (v.length - (i + 1))
def pairsP (s : Shape) (v : List V) : List (Nat × Nat) := pairsUp s v v.length
def stepR (s : Shape) (v : List V) (acc : List S) (i k : Nat) : List S :=
  if chordR s ⟨nth v i, nth v k⟩ && (acc.all fun d => meetR d ⟨nth v i, nth v k⟩ != 2) then acc ++ [⟨nth v i, nth v k⟩] else acc
def rowR (s : Shape) (v : List V) (acc : List S) (i : Nat) : Nat → List S
  | 0 => acc
  | m + 1 => stepR s v (rowR s v acc i m) i (i + 1 + m)
def diagUp (s : Shape) (v : List V) : Nat → List S
  | 0 => []
  | i + 1 => rowR s v (diagUp s v i) i (v.length - (i + 1))
def diagR (s : Shape) (v : List V) : List S := diagUp s v v.length
theorem nth_mem {v : List V} {i : Nat} (h : i < v.length) : nth v i ∈ v := mem_nth.2 ⟨i, h, rfl⟩
theorem nth_inj {v : List V} (hn : v.Nodup) {i k : Nat} (hi : i < v.length) (hk : k < v.length) (e : nth v i = nth v k) : i = k := by
  unfold nth at e
  rw [List.getD_eq_getElem?_getD, List.getD_eq_getElem?_getD, List.getElem?_eq_getElem hi, List.getElem?_eq_getElem hk] at e
  simp only [Option.getD_some] at e
  rw [List.nodup_iff_pairwise_ne, List.pairwise_iff_getElem] at hn
  rcases Nat.lt_trichotomy i k with h | h | h
  · exact absurd e (hn i k hi hk h)
  · exact h
  · exact absurd e.symm (hn k i hk hi h)
structure Found (s : Shape) (v : List V) (acc : List (Nat × Nat)) (i k : Nat) : Prop where
  lt : ∀ p ∈ acc, p.1 < p.2 ∧ p.2 < v.length
  ahead : ∀ p ∈ acc, p.1 < i ∨ (p.1 = i ∧ p.2 < k)
  chord : ∀ p ∈ acc, chordP s (segV v p) = true
  apart : acc.Pairwise fun p q => meetR (segV v p) (segV v q) ≠ 2
theorem crossed_eq {s : Shape} (h : VS s) {v : List V} (hv : ∀ x ∈ v, x ∈ vertsS s) (hn : v.Nodup) {acc : List (Nat × Nat)} {i k : Nat} (hF : Found s v acc i k) (hik : i < k) (hk : k < v.length) (hc : chordP s ⟨nth v i, nth v k⟩ = true) :
    (!(acc.any fun d => !(atEnds ⟨nth v i, nth v k⟩ (segV v d)))) = ((acc.map (segV v)).all fun d => meetR d ⟨nth v i, nth v k⟩ != 2) := by
  rw [List.any_eq_not_all_not, Bool.not_not, List.all_map, Bool.eq_iff_iff, List.all_eq_true, List.all_eq_true]
  have key : ∀ d ∈ acc, atEnds ⟨nth v i, nth v k⟩ (segV v d) = (meetR (segV v d) ⟨nth v i, nth v k⟩ != 2) := by
    intro d hd
    obtain ⟨h1, h2⟩ := hF.lt d hd
    refine chords_meet h hc (hF.chord d hd) (hv _ (nth_mem (by omega))) (hv _ (nth_mem hk)) (hv _ (nth_mem (by omega))) (hv _ (nth_mem (by omega))) ?_
    rintro (⟨e1, e2⟩ | ⟨e1, e2⟩)
    · have a1 := nth_inj hn (by omega) (by omega) e1
      have a2 := nth_inj hn (by omega) (by omega) e2
      rcases hF.ahead d hd with h3 | h3 <;> omega
    · have a1 := nth_inj hn (by omega) (by omega) e1
      have a2 := nth_inj hn (by omega) (by omega) e2
      omega
  constructor
  · intro hh d hd
    have := hh d hd
    rw [Bool.not_not, key d hd] at this
    exact this
  · intro hh d hd
    rw [Bool.not_not, key d hd]
    exact hh d hd
theorem step_eq {s : Shape} (h : VS s) {v : List V} (hv : ∀ x ∈ v, x ∈ vertsS s) (hn : v.Nodup) {acc : List (Nat × Nat)} {i k : Nat} (hF : Found s v acc i k) (hik : i < k) (hk : k < v.length) :
    (stepP s v acc i k).map (segV v) = stepR s v (acc.map (segV v)) i k ∧ Found s v (stepP s v acc i k) i (k + 1) := by
  have hne : nth v i ≠ nth v k := fun e => by have := nth_inj hn (by omega) hk e; omega
  have hce := chord_eq h (c := ⟨nth v i, nth v k⟩) (hv _ (nth_mem (by omega))) (hv _ (nth_mem hk)) hne
  unfold stepP stepR
  cases hc : chordP s ⟨nth v i, nth v k⟩ with
  | false =>
    rw [hc] at hce
    rw [← hce]
    simp only [Bool.and_false, Bool.false_and, Bool.false_eq_true, if_false]
    exact ⟨by trivial, hF.lt, fun p hp => by have := hF.ahead p hp; omega, hF.chord, hF.apart⟩
  | true =>
    rw [hc] at hce
    rw [← hce, crossed_eq h hv hn hF hik hk hc, Bool.and_true, Bool.true_and]
    by_cases hx : ((acc.map (segV v)).all fun d => meetR d ⟨nth v i, nth v k⟩ != 2) = true
    · rw [if_pos hx, if_pos hx]
      refine ⟨by rw [List.map_append]; rfl, ?_, ?_, ?_, ?_⟩
      · intro p hp
        rcases List.mem_append.1 hp with hp | hp
        · exact hF.lt p hp
        · obtain rfl := List.mem_singleton.1 hp; exact ⟨hik, hk⟩
      · intro p hp
        rcases List.mem_append.1 hp with hp | hp
        · have := hF.ahead p hp; omega
        · obtain rfl := List.mem_singleton.1 hp; right; exact ⟨rfl, by simp⟩
      · intro p hp
        rcases List.mem_append.1 hp with hp | hp
        · exact hF.chord p hp
        · obtain rfl := List.mem_singleton.1 hp; exact hc
      · rw [List.pairwise_append]
        refine ⟨hF.apart, List.pairwise_singleton _ _, ?_⟩
        intro p hp q hq
        obtain rfl := List.mem_singleton.1 hq
        rw [List.all_map, List.all_eq_true] at hx
        have := hx p hp
        simp only [Function.comp, bne_iff_ne] at this
        exact this
    · rw [if_neg hx, if_neg hx]
      exact ⟨rfl, hF.lt, fun p hp => by have := hF.ahead p hp; omega, hF.chord, hF.apart⟩
theorem row_eq {s : Shape} (h : VS s) {v : List V} (hv : ∀ x ∈ v, x ∈ vertsS s) (hn : v.Nodup) {acc : List (Nat × Nat)} {i : Nat} (hF : Found s v acc i (i + 1)) (m : Nat) (hm : i + 1 + m ≤ v.length) :
    (rowP s v acc i m).map (segV v) = rowR s v (acc.map (segV v)) i m ∧ Found s v (rowP s v acc i m) i (i + 1 + m) := by
  induction m with
  | zero => exact ⟨rfl, hF⟩
  | succ m ih =>
    obtain ⟨h1, h2⟩ := ih (by omega)
    unfold rowP rowR
    rw [← h1]
    exact step_eq h hv hn h2 (by omega) (by omega)
theorem up_eq {s : Shape} (h : VS s) {v : List V} (hv : ∀ x ∈ v, x ∈ vertsS s) (hn : v.Nodup) (i : Nat) (hi : i ≤ v.length) :
    (pairsUp s v i).map (segV v) = diagUp s v i ∧ Found s v (pairsUp s v i) i (i + 1) := by
  induction i with
  | zero => exact ⟨rfl, ⟨by simp [pairsUp], by simp [pairsUp], by simp [pairsUp], by simp [pairsUp]⟩⟩
  | succ i ih =>
    obtain ⟨h1, h2⟩ := ih (by omega)
    unfold pairsUp diagUp
    rw [← h1]
    obtain ⟨h3, h4⟩ := row_eq h hv hn h2 (v.length - (i + 1)) (by omega)
    exact ⟨h3, h4.lt, fun p hp => by have := h4.ahead p hp; omega, h4.chord, h4.apart⟩
theorem diag_eq {s : Shape} (h : VS s) {v : List V} (hv : ∀ x ∈ v, x ∈ vertsS s) (hn : v.Nodup) : (pairsP s v).map (segV v) = diagR s v ∧ Found s v (pairsP s v) v.length (v.length + 1) :=
  up_eq h hv hn _ (Nat.le_refl _)
end Go.Proofs.YtdaeofhdgabhjaaGreat.Geo
namespace Go.Proofs.YtdaeofhdgabhjaaGreat.Geo
abbrev Tab := Nat → Nat → Bool
def joinT (t : Tab) (i k : Nat) : Tab := fun a b => if (a = i ∧ b = k) ∨ (a = k ∧ b = i) then true else t a b
def ringT (t : Tab) (n at_ : Nat) : Nat → Tab
  | 0 => t
  | m + 1 => joinT (ringT t n at_ m) (at_ + m) (at_ + (m + 1) % n)
def ringsT (t : Tab) (at_ : Nat) : List Ring → Tab
  | [] => t
  | r :: l => ringsT (ringT t r.length at_ r.length) (at_ + r.length) l
def pairsT (l : List (Nat × Nat)) : Tab := l.foldl (fun t p => joinT t p.1 p.2) (fun _ _ => false)
def joinedP (s : Shape) (v : List V) : Tab := ringsT (pairsT (pairsP s v)) 0 (ringsS (canonS s))
theorem pairsT_iff (l : List (Nat × Nat)) (t : Tab) (a b : Nat) : l.foldl (fun t p => joinT t p.1 p.2) t a b = true ↔ (t a b = true ∨ (a, b) ∈ l ∨ (b, a) ∈ l) := by
  induction l generalizing t with
  | nil => simp
  | cons p l ih =>
    rw [List.foldl_cons, ih]
    obtain ⟨p1, p2⟩ := p
    unfold joinT
    simp only [List.mem_cons, Prod.mk.injEq]
    by_cases h : (a = p1 ∧ b = p2) ∨ (a = p2 ∧ b = p1)
    · rw [if_pos h]; simp; grind
    · rw [if_neg h]; grind
theorem ringT_iff (t : Tab) (n at_ m a b : Nat) : ringT t n at_ m a b = true ↔ (t a b = true ∨ ∃ q, q < m ∧ ((a = at_ + q ∧ b = at_ + (q + 1) % n) ∨ (b = at_ + q ∧ a = at_ + (q + 1) % n))) := by
  induction m with
  | zero => simp [ringT]
  | succ m ih =>
    unfold ringT joinT
    by_cases h : (a = at_ + m ∧ b = at_ + (m + 1) % n) ∨ (a = at_ + (m + 1) % n ∧ b = at_ + m)
    · rw [if_pos h]
      refine ⟨fun _ => .inr ⟨m, by omega, ?_⟩, fun _ => rfl⟩
      rcases h with h | h
      · exact .inl h
      · exact .inr ⟨h.2, h.1⟩
    · rw [if_neg h, ih]
      constructor
      · rintro (h1 | ⟨q, hq, h1⟩)
        · exact .inl h1
        · exact .inr ⟨q, by omega, h1⟩
      · rintro (h1 | ⟨q, hq, h1⟩)
        · exact .inl h1
        · by_cases e : q = m
          · subst e
            exfalso; apply h
            rcases h1 with h1 | h1
            · exact .inl h1
            · exact .inr ⟨h1.2, h1.1⟩
          · exact .inr ⟨q, by omega, h1⟩
theorem nth_append_left {l m : List V} {i : Nat} (h : i < l.length) : nth (l ++ m) i = nth l i := by
  unfold nth; rw [List.getD_eq_getElem?_getD, List.getD_eq_getElem?_getD, List.getElem?_append_left h]
theorem nth_append_right {l m : List V} {i : Nat} : nth (l ++ m) (l.length + i) = nth m i := by
  unfold nth; rw [List.getD_eq_getElem?_getD, List.getD_eq_getElem?_getD, List.getElem?_append_right (by omega), Nat.add_sub_cancel_left]
theorem ringsT_iff : ∀ (L : List Ring) (pre : List V) (t : Tab), (pre ++ L.flatten).Nodup → (∀ r ∈ L, 2 ≤ r.length) → ∀ a b, a < (pre ++ L.flatten).length → b < (pre ++ L.flatten).length →
    (ringsT t pre.length L a b = true ↔ (t a b = true ∨ ∃ e ∈ L.flatMap edges, (e.a = nth (pre ++ L.flatten) a ∧ e.b = nth (pre ++ L.flatten) b) ∨ (e.a = nth (pre ++ L.flatten) b ∧ e.b = nth (pre ++ L.flatten) a)))
  | [], pre, t, _, _, a, b, _, _ => by simp [ringsT]
  | r :: L, pre, t, hn, h2, a, b, ha, hb => by
    have hr2 := h2 r (by simp)
    have e0 : pre ++ (r :: L).flatten = (pre ++ r) ++ L.flatten := by rw [List.flatten_cons, List.append_assoc]
    rw [e0] at hn ha hb ⊢
    unfold ringsT
    have ih := ringsT_iff L (pre ++ r) (ringT t r.length pre.length r.length) hn (fun x hx => h2 x (by simp [hx])) a b ha hb
    rw [List.length_append] at ih
    rw [ih, ringT_iff, List.flatMap_cons]
    have hin : ∀ q, q < r.length → nth ((pre ++ r) ++ L.flatten) (pre.length + q) = nth r q := by
      intro q hq
      rw [nth_append_left (by simp; omega), nth_append_right]
    have hlt : ∀ q, q < r.length → pre.length + q < ((pre ++ r) ++ L.flatten).length := by intro q hq; simp; omega
    have hmod : ∀ q, (q + 1) % r.length < r.length := fun q => Nat.mod_lt _ (by omega)
    constructor
    · rintro ((h | ⟨q, hq, h⟩) | ⟨e, he, h⟩)
      · exact .inl h
      · refine .inr ⟨edge r q, List.mem_append_left _ (mem_edges.2 ⟨hr2, q, hq, rfl⟩), ?_⟩
        rcases h with ⟨rfl, rfl⟩ | ⟨rfl, rfl⟩
        · left; rw [hin q hq, hin _ (hmod q)]; exact ⟨rfl, rfl⟩
        · right; rw [hin q hq, hin _ (hmod q)]; exact ⟨rfl, rfl⟩
      · exact .inr ⟨e, List.mem_append_right _ he, h⟩
    · rintro (h | ⟨e, he, h⟩)
      · exact .inl (.inl h)
      · rcases List.mem_append.1 he with he | he
        · obtain ⟨_, q, hq, rfl⟩ := mem_edges.1 he
          left; right
          refine ⟨q, hq, ?_⟩
          have e1 : (edge r q).a = nth ((pre ++ r) ++ L.flatten) (pre.length + q) := (hin q hq).symm
          have e2 : (edge r q).b = nth ((pre ++ r) ++ L.flatten) (pre.length + (q + 1) % r.length) := (hin _ (hmod q)).symm
          rw [e1, e2] at h
          rcases h with ⟨h1, h2⟩ | ⟨h1, h2⟩
          · left; exact ⟨(nth_inj hn (hlt q hq) ha h1).symm, (nth_inj hn (hlt _ (hmod q)) hb h2).symm⟩
          · right; exact ⟨(nth_inj hn (hlt q hq) hb h1).symm, (nth_inj hn (hlt _ (hmod q)) ha h2).symm⟩
        · exact .inr ⟨e, he, h⟩
def joinedR (l : List S) (a b : V) : Bool := l.any fun e => (e.a == a && e.b == b) || (e.a == b && e.b == a)
theorem joined_eq {s : Shape} (h : VS s) {i k : Nat} (hi : i < (vertsS (canonS s)).length) (hk : k < (vertsS (canonS s)).length) :
    joinedP s (vertsS (canonS s)) i k = joinedR (diagR s (vertsS (canonS s)) ++ edgesS s) (nth (vertsS (canonS s)) i) (nth (vertsS (canonS s)) k) := by
  have hn : (vertsS (canonS s)).Nodup := (canon_verts s).nodup_iff.2 h.nodup
  have hv : ∀ x ∈ vertsS (canonS s), x ∈ vertsS s := fun x hx => (canon_verts s).subset hx
  obtain ⟨hd, hF⟩ := diag_eq h hv hn
  have h2 : ∀ r ∈ ringsS (canonS s), 2 ≤ r.length := by
    intro r hr
    unfold ringsS canonS at hr
    rcases List.mem_cons.1 hr with rfl | hr
    · rw [begin_length]; have := h.outer.three; omega
    · obtain ⟨q, hq, rfl⟩ := List.mem_map.1 ((sortH_perm _).subset hr)
      rw [begin_length]; have := (h.ring (show q ∈ ringsS s by simp [ringsS, hq])).three; omega
  have hr := ringsT_iff (ringsS (canonS s)) [] (pairsT (pairsP s (vertsS (canonS s)))) (by rw [List.nil_append]; exact hn) h2 i k (by rw [List.nil_append]; exact hi) (by rw [List.nil_append]; exact hk)
  rw [List.nil_append, List.length_nil] at hr
  rw [Bool.eq_iff_iff]
  unfold joinedP
  rw [hr]
  unfold joinedR
  rw [List.any_eq_true, ← hd]
  unfold pairsT
  rw [pairsT_iff]
  simp only [Bool.false_eq_true, false_or, List.mem_append, Bool.or_eq_true, Bool.and_eq_true, beq_iff_eq]
  have hm : ∀ e, e ∈ (ringsS (canonS s)).flatMap edges ↔ e ∈ edgesS s := fun e => mem_edgesS_canon s e
  constructor
  · rintro ((hp | hp) | ⟨e, he, hx⟩)
    · exact ⟨segV _ (i, k), .inl (List.mem_map.2 ⟨_, hp, rfl⟩), .inl ⟨rfl, rfl⟩⟩
    · exact ⟨segV _ (k, i), .inl (List.mem_map.2 ⟨_, hp, rfl⟩), .inr ⟨rfl, rfl⟩⟩
    · exact ⟨e, .inr ((hm e).1 he), hx⟩
  · rintro ⟨e, he | he, hx⟩
    · obtain ⟨p, hp, rfl⟩ := List.mem_map.1 he
      obtain ⟨l1, l2⟩ := hF.lt p hp
      left
      rcases hx with ⟨x1, x2⟩ | ⟨x1, x2⟩
      · left
        have a1 := nth_inj hn (by omega) hi x1
        have a2 := nth_inj hn (by omega) hk x2
        rw [← a1, ← a2]; exact hp
      · right
        have a1 := nth_inj hn (by omega) hk x1
        have a2 := nth_inj hn (by omega) hi x2
        rw [← a1, ← a2]; exact hp
    · exact .inr ⟨e, (hm e).2 he, hx⟩
end Go.Proofs.YtdaeofhdgabhjaaGreat.Geo
namespace Go.Proofs.YtdaeofhdgabhjaaGreat.Geo
def cmpRing : Ring → Ring → Int
  | [], [] => 0
  | [], _ :: _ => -1
  | _ :: _, [] => 1
  | a :: l, b :: m => if cmpV a b ≠ 0 then cmpV a b else cmpRing l m
theorem cmpI_swap (x y : Int) : cmpI x y = - cmpI y x := by unfold cmpI; grind
theorem cmpV_swap (p q : V) : cmpV p q = - cmpV q p := by
  unfold cmpV; rw [cmpI_swap p.y, cmpI_swap p.x]; grind
theorem cmpRing_swap : ∀ (l m : Ring), cmpRing l m = - cmpRing m l
  | [], [] => rfl
  | [], _ :: _ => rfl
  | _ :: _, [] => rfl
  | a :: l, b :: m => by
    unfold cmpRing
    have := cmpV_swap a b
    by_cases h : cmpV a b = 0
    · rw [if_neg (by omega), if_neg (by omega)]; exact cmpRing_swap l m
    · rw [if_pos h, if_pos (by omega)]; exact this
theorem cmpRing_zero : ∀ (l m : Ring), cmpRing l m = 0 → l = m
  | [], [], _ => rfl
  | [], _ :: _, h => by unfold cmpRing at h; omega
  | _ :: _, [], h => by unfold cmpRing at h; omega
  | a :: l, b :: m, h => by
    unfold cmpRing at h
    by_cases h0 : cmpV a b = 0
    · rw [if_neg (by omega)] at h
      rw [(cmpV_zero a b).1 h0, cmpRing_zero l m h]
    · rw [if_pos h0] at h; exact absurd h h0
theorem cmpRing_refl (l : Ring) : cmpRing l l = 0 := by have := cmpRing_swap l l; omega
theorem cmpV_trans {p q r : V} (h1 : cmpV p q < 0) (h2 : cmpV q r < 0) : cmpV p r < 0 := by
  rw [cmpV_lt] at *; exact lessV_trans h1 h2
theorem cmpRing_trans : ∀ (l m n : Ring), cmpRing l m < 0 → cmpRing m n < 0 → cmpRing l n < 0
  | [], [], _, h, _ => by unfold cmpRing at h; omega
  | [], _ :: _, [], _, h => by unfold cmpRing at h; omega
  | [], _ :: _, _ :: _, _, _ => by unfold cmpRing; omega
  | _ :: _, [], _, h, _ => by unfold cmpRing at h; omega
  | _ :: _, _ :: _, [], _, h => by unfold cmpRing at h; omega
  | a :: l, b :: m, c :: n, h1, h2 => by
    unfold cmpRing at *
    by_cases e1 : cmpV a b = 0
    · rw [if_neg (by omega)] at h1
      have := (cmpV_zero a b).1 e1; subst this
      by_cases e2 : cmpV a c = 0
      · rw [if_neg (by omega)] at h2 ⊢; exact cmpRing_trans l m n h1 h2
      · rw [if_pos e2] at h2 ⊢; exact h2
    · rw [if_pos e1] at h1
      by_cases e2 : cmpV b c = 0
      · have := (cmpV_zero b c).1 e2; subst this
        rw [if_pos (by omega)]; exact h1
      · rw [if_pos e2] at h2
        have := cmpV_trans h1 h2
        rw [if_pos (by omega)]; exact this
def leRing (a b : Ring) : Prop := cmpRing a b ≤ 0
theorem leRing_anti {a b : Ring} (h1 : leRing a b) (h2 : leRing b a) : a = b := by
  unfold leRing at *
  apply cmpRing_zero
  have := cmpRing_swap a b; omega
theorem leRing_trans {a b c : Ring} (h1 : leRing a b) (h2 : leRing b c) : leRing a c := by
  unfold leRing at *
  by_cases e1 : cmpRing a b = 0
  · rw [cmpRing_zero _ _ e1]; exact h2
  · by_cases e2 : cmpRing b c = 0
    · rw [← cmpRing_zero _ _ e2]; exact h1
    · have := cmpRing_trans a b c (by omega) (by omega); omega
def insR : List Ring → Ring → List Ring
  | [], r => [r]
  | q :: l, r => if cmpRing q r < 0 then q :: insR l r else r :: q :: l
theorem insR_perm (l : List Ring) (r : Ring) : (insR l r).Perm (r :: l) := by
  induction l with
  | nil => exact List.Perm.refl _
  | cons q l ih =>
    unfold insR
    split
    · exact (List.Perm.cons q ih).trans (List.Perm.swap r q l)
    · exact List.Perm.refl _
theorem insR_sorted (l : List Ring) (r : Ring) (hl : l.Pairwise leRing) : (insR l r).Pairwise leRing := by
  induction l with
  | nil => simp [insR]
  | cons q l ih =>
    rw [List.pairwise_cons] at hl
    unfold insR
    split
    · rename_i hq
      rw [List.pairwise_cons]
      refine ⟨fun x hx => ?_, ih hl.2⟩
      have hx := (insR_perm l r).subset hx
      rcases List.mem_cons.1 hx with rfl | hx
      · unfold leRing; omega
      · exact hl.1 x hx
    · rename_i hq
      have hq' : leRing r q := by unfold leRing; have := cmpRing_swap r q; omega
      rw [List.pairwise_cons, List.pairwise_cons]
      refine ⟨fun x hx => ?_, hl⟩
      rcases List.mem_cons.1 hx with rfl | hx
      · exact hq'
      · exact leRing_trans hq' (hl.1 x hx)
theorem foldl_insR_perm (l acc : List Ring) : (l.foldl insR acc).Perm (acc ++ l) := by
  induction l generalizing acc with
  | nil => simp
  | cons q l ih =>
    rw [List.foldl_cons]
    refine (ih _).trans ?_
    refine ((insR_perm acc q).append_right l).trans ?_
    rw [List.cons_append]
    exact List.perm_middle.symm
theorem foldl_insR_sorted (l acc : List Ring) (h : acc.Pairwise leRing) : (l.foldl insR acc).Pairwise leRing := by
  induction l generalizing acc with
  | nil => exact h
  | cons q l ih => exact ih _ (insR_sorted acc q h)
def sortR (l : List Ring) : List Ring := l.foldl insR []
theorem sortR_perm (l : List Ring) : (sortR l).Perm l := by
  unfold sortR
  have := foldl_insR_perm l []
  rwa [List.nil_append] at this
theorem sortR_unique {l m : List Ring} (hp : m.Perm l) (hs : m.Pairwise leRing) : m = sortR l :=
  List.Perm.eq_of_pairwise (fun _ _ _ _ h1 h2 => leRing_anti h1 h2) hs (foldl_insR_sorted l [] List.Pairwise.nil) (hp.trans (sortR_perm l).symm)
def canonR (r : Ring) : Ring := if validP r then begin r else []
def triP (a b c : V) : Ring := if turn a b c < 0 then canonR [a, c, b] else canonR [a, b, c]
def emptyP (s : Shape) (v : List V) (i j k : Nat) : Bool :=
  turn (nth v i) (nth v j) (nth v k) != 0 &&
  ((List.range v.length).all fun n => !(n != i && n != j && n != k && whereVP (triP (nth v i) (nth v j) (nth v k)) (nth v n) != 0)) &&
  whereSP s (centerP (nth v i) (nth v j) (nth v k)) == 2
def emptyR (r : Ring) (v : List V) : Bool := v.all fun p => !(p != nth r 0 && p != nth r 1 && p != nth r 2 && whereVR r p != 0)
def triOK (s : Shape) (v : List V) (r : Ring) : Bool := r.length == 3 && emptyR r v && whereSR s (middleR r) == 2
theorem near3 {a b c : V} (ha : within a 2000 = true) (hb : within b 2000 = true) (hc : within c 2000 = true) : near [a, b, c] = true := by
  unfold near; simp [ha, hb, hc]
theorem area3 (a b c : V) : area [a, b, c] = cross (sub b a) (sub c a) := by
  have e : area [a, b, c] = cross a b + (cross b c + (cross c a + 0)) := by
    unfold area
    simp [List.range_succ, nth, nxt]
  rw [e]; simp only [cross, sub]; grind
theorem valid3 {a b c : V} (hn : near [a, b, c] = true) : validP [a, b, c] = true ↔ 0 < turn a b c := by
  rw [validP_iff]
  constructor
  · intro h; have := h.area; rw [area3] at this; unfold turn; rw [sgn_pos]; exact this
  · intro h
    have hp : 0 < cross (sub b a) (sub c a) := by unfold turn at h; rwa [sgn_pos] at h
    have t1 : turn b c a ≠ 0 := by rw [← turn_rot]; omega
    have t2 : turn c a b ≠ 0 := by rw [turn_rot]; omega
    refine ⟨by simp, by simp, hn, by rw [area3]; exact hp, ?_, ?_, ?_⟩
    · intro i hi
      match i, hi with
      | 0, _ => simpa [prv, nth, nxt] using t2
      | 1, _ => have : turn a b c ≠ 0 := by omega
                simpa [prv, nth, nxt] using this
      | 2, _ => simpa [prv, nth, nxt] using t1
    · intro i hi
      match i, hi with
      | 0, _ => have : turn a b c ≠ 0 := by omega
                simpa [prv, nth, nxt] using this
      | 1, _ => simpa [prv, nth, nxt] using t1
      | 2, _ => simpa [prv, nth, nxt] using t2
    · intro i k h1 h2 h3 h4
      simp at h2 h4
      omega
theorem perm_sumX {l m : List V} (h : l.Perm m) : sumX l = sumX m := by
  unfold sumX
  induction h with
  | nil => rfl
  | cons x _ ih => simp [ih]
  | swap x y l => simp only [List.map_cons, List.sum_cons]; omega
  | trans _ _ h1 h2 => exact h1.trans h2
theorem perm_sumY {l m : List V} (h : l.Perm m) : sumY l = sumY m := by
  unfold sumY
  induction h with
  | nil => rfl
  | cons x _ ih => simp [ih]
  | swap x y l => simp only [List.map_cons, List.sum_cons]; omega
  | trans _ _ h1 h2 => exact h1.trans h2
theorem middleR_perm {l m : List V} (h : l.Perm m) : middleR l = middleR m := by
  unfold middleR; rw [perm_sumX h, perm_sumY h, h.length_eq]
theorem turn_flip (a b c : V) : turn a c b = - turn a b c := by
  unfold turn
  have : cross (sub c a) (sub b a) = - cross (sub b a) (sub c a) := by simp only [cross, sub]; grind
  rw [this]; unfold sgn; grind
theorem triP_cases {a b c : V} (ha : within a 2000 = true) (hb : within b 2000 = true) (hc : within c 2000 = true) :
    (turn a b c = 0 ∧ triP a b c = []) ∨ (turn a b c ≠ 0 ∧ (triP a b c).Perm [a, b, c]) := by
  unfold triP canonR
  by_cases h : turn a b c < 0
  · right
    refine ⟨by omega, ?_⟩
    have : validP [a, c, b] = true := (valid3 (near3 ha hc hb)).2 (by rw [turn_flip]; omega)
    rw [if_pos h, if_pos this]
    exact (begin_perm _).trans (List.Perm.cons a (List.Perm.swap b c []))
  · rw [if_neg h]
    by_cases h0 : turn a b c = 0
    · left
      refine ⟨h0, ?_⟩
      have : ¬ validP [a, b, c] = true := fun e => by have := (valid3 (near3 ha hb hc)).1 e; omega
      rw [if_neg this]
    · right
      refine ⟨h0, ?_⟩
      have : validP [a, b, c] = true := (valid3 (near3 ha hb hc)).2 (by omega)
      rw [if_pos this]
      exact begin_perm _
theorem empty_eq {s : Shape} {v : List V} (hw : ∀ x ∈ v, within x 2000 = true) (hn : v.Nodup) {i j k : Nat} (hi : i < v.length) (hj : j < v.length) (hk : k < v.length) :
    emptyP s v i j k = triOK s v (triP (nth v i) (nth v j) (nth v k)) := by
  unfold emptyP triOK
  rcases triP_cases (hw _ (nth_mem hi)) (hw _ (nth_mem hj)) (hw _ (nth_mem hk)) with ⟨h0, h1⟩ | ⟨h0, h1⟩
  · rw [h0, h1]; simp
  · have hl : (triP (nth v i) (nth v j) (nth v k)).length = 3 := by rw [h1.length_eq]; rfl
    have e1 : (turn (nth v i) (nth v j) (nth v k) != 0) = true := by simpa using h0
    have e2 : ((triP (nth v i) (nth v j) (nth v k)).length == 3) = true := by rw [hl]; rfl
    rw [e1, e2, Bool.true_and, Bool.true_and, whereS_two, middleR_perm h1, middle_eq3]
    have hme : ∀ x, (x = nth (triP (nth v i) (nth v j) (nth v k)) 0 ∨ x = nth (triP (nth v i) (nth v j) (nth v k)) 1 ∨ x = nth (triP (nth v i) (nth v j) (nth v k)) 2) ↔ (x = nth v i ∨ x = nth v j ∨ x = nth v k) := by
      intro x
      have a1 : x ∈ triP (nth v i) (nth v j) (nth v k) ↔ x ∈ [nth v i, nth v j, nth v k] := h1.mem_iff
      generalize triP (nth v i) (nth v j) (nth v k) = r at *
      match r, hl with
      | [x0, x1, x2], _ => simpa [nth] using a1
    have hall : ((List.range v.length).all fun n => !(n != i && n != j && n != k && whereVP (triP (nth v i) (nth v j) (nth v k)) (nth v n) != 0)) = emptyR (triP (nth v i) (nth v j) (nth v k)) v := by
      unfold emptyR
      have key : ∀ n, n < v.length → ((n != i && n != j && n != k) = (nth v n != nth (triP (nth v i) (nth v j) (nth v k)) 0 && nth v n != nth (triP (nth v i) (nth v j) (nth v k)) 1 && nth v n != nth (triP (nth v i) (nth v j) (nth v k)) 2)) := by
        intro n hn'
        have a2 := hme (nth v n)
        have b1 : nth v n = nth v i ↔ n = i := ⟨fun e => nth_inj hn hn' hi e, fun e => by rw [e]⟩
        have b2 : nth v n = nth v j ↔ n = j := ⟨fun e => nth_inj hn hn' hj e, fun e => by rw [e]⟩
        have b3 : nth v n = nth v k ↔ n = k := ⟨fun e => nth_inj hn hn' hk e, fun e => by rw [e]⟩
        rw [b1, b2, b3] at a2
        rw [Bool.eq_iff_iff]
        simp only [Bool.and_eq_true, bne_iff_ne, ne_eq]
        constructor
        · rintro ⟨⟨x1, x2⟩, x3⟩
          have : ¬ (n = i ∨ n = j ∨ n = k) := by omega
          rw [← a2] at this
          exact ⟨⟨fun e => this (.inl e), fun e => this (.inr (.inl e))⟩, fun e => this (.inr (.inr e))⟩
        · rintro ⟨⟨x1, x2⟩, x3⟩
          have : ¬ (n = i ∨ n = j ∨ n = k) := by rw [← a2]; rintro (e | e | e); exact x1 e; exact x2 e; exact x3 e
          exact ⟨⟨fun e => this (.inl e), fun e => this (.inr (.inl e))⟩, fun e => this (.inr (.inr e))⟩
      rw [Bool.eq_iff_iff, List.all_eq_true, List.all_eq_true]
      constructor
      · intro h x hx
        obtain ⟨n, hn', rfl⟩ := mem_nth.1 hx
        have := h n (List.mem_range.2 hn')
        rw [← key n hn', ← whereV_eq]; exact this
      · intro h n hn'
        have hn' := List.mem_range.1 hn'
        have := h (nth v n) (nth_mem hn')
        rw [key n hn', whereV_eq]; exact this
    rw [hall]
end Go.Proofs.YtdaeofhdgabhjaaGreat.Geo
namespace Go.Proofs.YtdaeofhdgabhjaaGreat
open Go.RowKit
def vP (v : Geo.V) : PV := .agg [.int .i64 v.x, .int .i64 v.y]
def sP (s : Geo.S) : PV := .agg [.int .i64 s.a.x, .int .i64 s.a.y, .int .i64 s.b.x, .int .i64 s.b.y]
def ptP (z : Geo.Pt) : PV := .agg [.int .i64 z.x, .int .i64 z.y, .int .i64 z.den]
def encV (r : List Geo.V) : List PV := r.flatMap fun v => [.int .i64 v.x, .int .i64 v.y]
def encS (l : List Geo.S) : List PV := l.flatMap fun s => [.int .i64 s.a.x, .int .i64 s.a.y, .int .i64 s.b.x, .int .i64 s.b.y]
def ringP (r : List Geo.V) : PV := .sl r.length (encV r)
def segsP (l : List Geo.S) : PV := .sl l.length (encS l)
def ringsP (l : List Geo.Ring) : PV := .sl l.length (l.map ringP)
def shapeP (s : Geo.Shape) : PV := .agg [ringP s.outer, ringsP s.holes]
def Wide {α : Type} (m : Nat) (enc : List α → List PV) (e : α → List PV) : Prop := ∀ l, enc l = l.flatMap e ∧ ∀ x, (e x).length = m
section
variable {α : Type} {m : Nat} {enc : List α → List PV} {e : α → List PV}
theorem Wide.length (h : Wide m enc e) (l : List α) : (enc l).length = l.length * m := by
  rw [(h l).1]
  induction l with
  | nil => simp
  | cons x l ih => simp only [List.flatMap_cons, List.length_append, ih, (h []).2 x, List.length_cons, Nat.add_mul]; omega
theorem Wide.append (h : Wide m enc e) (l k : List α) : enc (l ++ k) = enc l ++ enc k := by rw [(h _).1, (h l).1, (h k).1, List.flatMap_append]
theorem Wide.at (h : Wide m enc e) (l : List α) (i : Nat) (hi : i < l.length) : ((enc l).drop (i * m)).take m = e l[i] := by
  have h1 : l = l.take i ++ l[i] :: l.drop (i + 1) := by rw [List.getElem_cons_drop]; simp
  have h2 : enc l = enc (l.take i) ++ (e l[i] ++ enc (l.drop (i + 1))) := by
    conv => lhs; rw [h1]
    rw [h.append, (h (l[i] :: _)).1, List.flatMap_cons, ← (h _).1]
  have h3 := h.length (l.take i)
  rw [List.length_take, Nat.min_eq_left (by omega)] at h3
  rw [h2, ← h3, List.drop_left, ← (h []).2 l[i], List.take_left]
theorem Wide.take (h : Wide m enc e) (l : List α) (k : Nat) : (enc l).take (k * m) = enc (l.take k) := by
  by_cases hk : k ≤ l.length
  · have h3 := h.length (l.take k)
    rw [List.length_take, Nat.min_eq_left hk] at h3
    conv => lhs; rw [← List.take_append_drop k l, h.append, ← h3, List.take_left]
  · rw [List.take_of_length_le (by rw [h.length]; exact Nat.mul_le_mul_right _ (by omega)), List.take_of_length_le (by omega)]
theorem Wide.drop (h : Wide m enc e) (l : List α) (k : Nat) : (enc l).drop (k * m) = enc (l.drop k) := by
  by_cases hk : k ≤ l.length
  · have h3 := h.length (l.take k)
    rw [List.length_take, Nat.min_eq_left hk] at h3
    conv => lhs; rw [← List.take_append_drop k l, h.append, ← h3, List.drop_left]
  · have e1 : l.drop k = [] := List.drop_eq_nil_of_le (by omega)
    rw [e1, List.drop_eq_nil_of_le (by rw [h.length]; exact Nat.mul_le_mul_right _ (by omega)), (h []).1]; rfl
end
theorem wideV : Wide 2 encV fun v => [.int .i64 v.x, .int .i64 v.y] := fun _ => ⟨rfl, fun _ => rfl⟩
theorem wideS : Wide 4 encS fun s => [.int .i64 s.a.x, .int .i64 s.a.y, .int .i64 s.b.x, .int .i64 s.b.y] := fun _ => ⟨rfl, fun _ => rfl⟩
def encP (l : List (Nat × Nat)) : List PV := l.flatMap fun p => [.int .i64 p.1, .int .i64 p.2]
theorem wideP : Wide 2 encP fun p => [.int .i64 (p.1 : Int), .int .i64 (p.2 : Int)] := fun _ => ⟨rfl, fun _ => rfl⟩
theorem nth_eq {v : List Geo.V} {i : Nat} (h : i < v.length) : Geo.nth v i = v[i] := by
  unfold Geo.nth; rw [List.getD_eq_getElem?_getD, List.getElem?_eq_getElem h]; rfl
theorem encV_at {v : List Geo.V} {i : Nat} (h : i < v.length) : ((encV v).drop (i * 2)).take 2 = [.int .i64 (Geo.nth v i).x, .int .i64 (Geo.nth v i).y] := by
  rw [nth_eq h]; exact wideV.at v i h
theorem encP_at {l : List (Nat × Nat)} {i : Nat} (h : i < l.length) : ((encP l).drop (i * 2)).take 2 = [.int .i64 (l[i].1 : Int), .int .i64 (l[i].2 : Int)] := wideP.at l i h
theorem wrap_succ {k : Nat} (h : k ≤ 1000000) : IntKind.i64.wrap ((k : Int) + 1) = ((k + 1 : Nat) : Int) := by
  rw [IntWalk.i64_in _ (by omega)]; omega
theorem wrap_nat {k : Nat} (h : k ≤ 1000000) : IntKind.i64.wrap (k : Int) = (k : Int) := by
  rw [IntWalk.i64_in _ (by omega)]
theorem eqInts44 : EqInts Tryz.prog 44 2 := by
  intro xs ys x y w hx hy
  match xs, ys, hx, hy with
  | [a, b], [c, d], _, _ =>
    have h1 := eqVec a b c d w
    refine ⟨?_, ?_⟩
    · simp only [List.map_cons, List.map_nil]
      simp [eqGuard, h1]
    · simp only [List.map_cons, List.map_nil]
      simp [eqGuard]
      rw [run_neq_struct]
      rw [run_eql_struct] at h1
      revert h1
      generalize Sem.run Tryz.prog (Op.equalIn 10000 44 (Value.agg #[Value.int IntKind.i64 a, Value.int IntKind.i64 b]) (Value.agg #[Value.int IntKind.i64 c, Value.int IntKind.i64 d])) w = R
      intro h1
      cases R with
      | ok q w' =>
        simp [Result.andThen] at h1
        obtain ⟨rfl, rfl⟩ := h1
        simp [Result.andThen]
        cases h2 : (a == c) <;> cases h3 : (b == d) <;> simp_all
      | _ => simp [Result.andThen] at h1
def nthS (l : List Geo.S) (i : Nat) : Geo.S := l.getD i default
def nthP (l : List (Nat × Nat)) (i : Nat) : Nat × Nat := l.getD i default
def nthI (l : List Int) (i : Nat) : Int := l.getD i 0
def nthB (l : List Bool) (i : Nat) : Bool := l.getD i false
theorem getD_eq {α : Type} {l : List α} {i : Nat} {d : α} (h : i < l.length) : l.getD i d = l[i] := by rw [List.getD_eq_getElem?_getD, List.getElem?_eq_getElem h]; rfl
theorem nthS_eq {l : List Geo.S} {i : Nat} (h : i < l.length) : nthS l i = l[i] := getD_eq h
theorem nthR_eq {l : List Geo.Ring} {i : Nat} (h : i < l.length) : Geo.nthR l i = l[i] := getD_eq h
theorem nthP_eq {l : List (Nat × Nat)} {i : Nat} (h : i < l.length) : nthP l i = l[i] := getD_eq h
theorem nthS_mem {l : List Geo.S} {i : Nat} (h : i < l.length) : nthS l i ∈ l := by rw [nthS_eq h]; exact List.getElem_mem h
section
variable {α : Type} {m : Nat} {enc : List α → List PV} {e : α → List PV}
theorem Wide.sub (h : Wide m enc e) (l : List α) {k : Nat} (hk : k < l.length) (j n : Nat) (hj : j + n ≤ m) : ((enc l).drop (k * m + j)).take n = ((e l[k]).drop j).take n := by
  have h1 := h.at l k hk
  have h2 : (((enc l).drop (k * m)).drop j).take n = ((((enc l).drop (k * m)).take m).drop j).take n := by
    rw [List.drop_take, List.take_take]
    congr 1; omega
  rw [List.drop_drop] at h2
  rw [h2, h1]
theorem Wide.get (h : Wide m enc e) (l : List α) {k : Nat} (hk : k < l.length) (j : Nat) (hj : j < m) : (enc l)[k * m + j]? = (e l[k])[j]? := by
  have h1 := h.at l k hk
  rw [← h1, List.getElem?_take, if_pos hj, List.getElem?_drop]
end
section
variable {α : Type} {m : Nat} {enc : List α → List PV} {e : α → List PV}
end
end Go.Proofs.YtdaeofhdgabhjaaGreat
namespace Go.Proofs.YtdaeofhdgabhjaaGreat
open Go.RowKit
inductive Fm : Type 1
  | tt
  | stuck (n : Nat)
  | need (p : Prop) (f : Fm)
  | imp (p : Prop) (f : Fm)
  | both (f g : Fm)
  | all (X : Type) (f : X → Fm)
  | ex (X : Type) (f : X → Fm)
def Fm.isTT : Fm → Bool
  | .tt => true
  | _ => false
def Fm.holds : Fm → Prop
  | .tt => True
  | .stuck _ => False
  | .need p f => (match f.isTT with | true => p | false => p ∧ f.holds)
  | .imp p f => p → f.holds
  | .both f g => (match f.isTT, g.isTT with | true, _ => g.holds | false, true => f.holds | false, false => f.holds ∧ g.holds)
  | .all X f => ∀ x : X, (f x).holds
  | .ex X f => ∃ x : X, (f x).holds
theorem Fm.tt_of {f : Fm} (h : f.isTT = true) : f.holds := by cases f <;> first | trivial | cases h
theorem Fm.need_holds {p : Prop} {f : Fm} (h : (Fm.need p f).holds) : p ∧ f.holds := by
  unfold Fm.holds at h
  split at h
  · rename_i e; exact ⟨h, Fm.tt_of e⟩
  · exact h
theorem Fm.both_holds {f g : Fm} (h : (Fm.both f g).holds) : f.holds ∧ g.holds := by
  unfold Fm.holds at h
  split at h
  · rename_i e; exact ⟨Fm.tt_of e, h⟩
  · rename_i e; exact ⟨h, Fm.tt_of e⟩
  · exact h
def needs : List Prop → Fm → Fm
  | [], f => f
  | p :: l, f => .need p (needs l f)
theorem needs_holds : ∀ {l : List Prop} {f : Fm}, (needs l f).holds → (∀ p ∈ l, p) ∧ f.holds
  | [], f, h => ⟨fun p hp => (by cases hp), h⟩
  | q :: l, f, h => by
    obtain ⟨h1, h2⟩ := Fm.need_holds h
    obtain ⟨h3, h4⟩ := needs_holds h2
    exact ⟨fun p hp => by rcases List.mem_cons.1 hp with rfl | hp; exact h1; exact h3 p hp, h4⟩
def andL : List Prop → Prop
  | [] => True
  | [p] => p
  | p :: l => p ∧ andL l
theorem andL_iff : ∀ {l : List Prop}, andL l ↔ ∀ p ∈ l, p
  | [] => ⟨fun _ p hp => (by cases hp), fun _ => trivial⟩
  | [p] => ⟨fun h q hq => (by rw [List.mem_singleton.1 hq]; exact h), fun h => h p List.mem_cons_self⟩
  | p :: q :: l => by
    show p ∧ andL (q :: l) ↔ _
    rw [andL_iff]
    exact ⟨fun h r hr => by rcases List.mem_cons.1 hr with rfl | hr; exact h.1; exact h.2 r hr, fun h => ⟨h p List.mem_cons_self, fun r hr => h r (List.mem_cons_of_mem _ hr)⟩⟩
def imps (l : List Prop) (f : Fm) : Fm := match l with
  | [] => f
  | p :: l => .imp (andL (p :: l)) f
theorem imps_holds {l : List Prop} {f : Fm} (h : (imps l f).holds) (hl : ∀ p ∈ l, p) : f.holds := by
  cases l with
  | nil => exact h
  | cons p l => exact (h : andL (p :: l) → _) (andL_iff.2 hl)
inductive LT where
  | V | S | R | I | B | P
deriving DecidableEq
@[reducible] def LT.ty : LT → Type
  | .V => Geo.V
  | .S => Geo.S
  | .R => Geo.Ring
  | .I => Int
  | .B => Bool
  | .P => Nat × Nat
def LT.w : LT → Nat
  | .V => 2
  | .S => 4
  | .R => 1
  | .I => 1
  | .B => 1
  | .P => 2
def LT.rowP : (t : LT) → t.ty → List PV
  | .V => fun v => [.int .i64 v.x, .int .i64 v.y]
  | .S => fun s => [.int .i64 s.a.x, .int .i64 s.a.y, .int .i64 s.b.x, .int .i64 s.b.y]
  | .R => fun r => [.sl r.length (encV r)]
  | .I => fun n => [.int .i64 n]
  | .B => fun b => [.bool b]
  | .P => fun p => [.int .i64 p.1, .int .i64 p.2]
def LT.enc (t : LT) (l : List t.ty) : List PV := l.flatMap t.rowP
theorem LT.wide (t : LT) : Wide t.w t.enc t.rowP := fun _ => ⟨rfl, fun x => by cases t <;> rfl⟩
theorem LT.w_pos (t : LT) : 0 < t.w := by cases t <;> decide
def LT.nth : (t : LT) → List t.ty → Nat → t.ty
  | .V => Geo.nth
  | .S => nthS
  | .R => Geo.nthR
  | .I => nthI
  | .B => nthB
  | .P => nthP
theorem LT.nth_eq (t : LT) (l : List t.ty) {i : Nat} (h : i < l.length) : t.nth l i = l[i] := by
  cases t
  · exact Go.Proofs.YtdaeofhdgabhjaaGreat.nth_eq h
  · exact nthS_eq h
  · exact nthR_eq h
  · exact getD_eq h
  · exact getD_eq h
  · exact nthP_eq h
inductive SV where
  | any | undef | nil
  | int (k : IntKind) (n : Int)
  | bool (b : Bool)
  | lit (b : Bool)
  | prop (p : Prop) (d : Decidable p)
  | str (s : ByteArray)
  | agg (l : List SV)
  | tup (l : List SV)
  | lst (t : LT) (l : List t.ty)
  | sl (n : Nat) (cells : List SV)
  | pe (t : LT) (l : List t.ty) (i off : Nat)
  | pro (cells : List SV) (off : Nat)
  | fn (f : Nat) (first caps : List SV)
  | fnp (f : Nat) (first caps : List SV)
  | clo1 (pv : PV) (t : LT) (q : t.ty → Bool) (dom : t.ty → Prop)
  | clo2 (pv : PV) (t : LT) (q : t.ty → t.ty → Int) (dom : t.ty → t.ty → Prop)
  | ptr (s off : Nat)
  | pte (s : Nat) (t : LT) (i off : Nat)
  | own (s : Nat) (t : LT) (n : Nat)
  | owns (s : Nat) (t : LT) (o n : Nat)
  | ownx (s n : Nat)
  | ptb (F : Nat → Bool) (n off : Nat)
def tabC (n : Nat) (F : Nat → Bool) : List PV := (List.range n).map fun k => .bool (F k)
theorem tabC_get (F : Nat → Bool) {n k : Nat} (h : k < n) : (tabC n F)[k]? = some (.bool (F k)) := by
  unfold tabC; rw [List.getElem?_map, List.getElem?_range h]; rfl
def mkTup (l : List AV) : AV := match allP l with | some q => .p (.tup q) | none => .tup l
mutual
def SV.av : SV → AV
  | .any => .any
  | .undef => .undef
  | .nil => .nil
  | .int k n => .p (.int k n)
  | .bool b => .p (.bool b)
  | .lit b => .p (.bool b)
  | .prop p d => .p (.bool (@decide p d))
  | .str s => .p (.str s)
  | .agg l => mkAgg (avs l)
  | .tup l => mkTup (avs l)
  | .lst t l => .p (.sl l.length (t.enc l))
  | .sl n cs => (match allP (avs cs) with | some q => .p (.sl n q) | none => .any)
  | .pe t l i off => .p (.pro (t.enc l) (i * t.w + off))
  | .pro cs off => (match allP (avs cs) with | some q => .p (.pro q off) | none => .any)
  | .fn f a b => .fn (.func f) (avs a) (avs b)
  | .fnp f a b => (match allP (avs a), allP (avs b) with | some x, some y => .p (.fn (.func f) x y) | _, _ => .any)
  | .clo1 pv _ _ _ => .p pv
  | .clo2 pv _ _ _ => .p pv
  | .ptr s off => .ptr s off
  | .pte s t i off => .ptr s (i * t.w + off)
  | .own s _ n => .own s 0 n
  | .owns s t o n => .own s (o * t.w) n
  | .ownx s n => .own s 0 n
  | .ptb F n off => .p (.pro (tabC n F) off)
def avs : List SV → List AV
  | [] => []
  | x :: l => x.av :: avs l
end
theorem avs_map : ∀ l : List SV, avs l = l.map SV.av
  | [] => rfl
  | x :: l => by rw [avs, avs_map l]; rfl
theorem avs_length (l : List SV) : (avs l).length = l.length := by rw [avs_map, List.length_map]
theorem avs_append (l m : List SV) : avs (l ++ m) = avs l ++ avs m := by rw [avs_map, avs_map, avs_map, List.map_append]
theorem avs_drop (l : List SV) (k : Nat) : avs (l.drop k) = (avs l).drop k := by rw [avs_map, avs_map, List.map_drop]
theorem avs_take (l : List SV) (k : Nat) : avs (l.take k) = (avs l).take k := by rw [avs_map, avs_map, List.map_take]
theorem avs_get (l : List SV) (k : Nat) : (avs l)[k]? = (l[k]?).map SV.av := by rw [avs_map, List.getElem?_map]
theorem avs_set (l : List SV) (k : Nat) (x : SV) : avs (l.set k x) = (avs l).set k x.av := by rw [avs_map, avs_map, List.map_set]
def LT.row : (t : LT) → t.ty → List SV
  | .V => fun v => [.int .i64 v.x, .int .i64 v.y]
  | .S => fun s => [.int .i64 s.a.x, .int .i64 s.a.y, .int .i64 s.b.x, .int .i64 s.b.y]
  | .R => fun r => [.lst .V r]
  | .I => fun n => [.int .i64 n]
  | .B => fun b => [.bool b]
  | .P => fun p => [.int .i64 p.1, .int .i64 p.2]
theorem LT.row_av (t : LT) (x : t.ty) : avs (t.row x) = (t.rowP x).map .p := by
  cases t <;> rfl
def LT.dec : (t : LT) → List SV → Option t.ty
  | .V, [.int .i64 x, .int .i64 y] => some ⟨x, y⟩
  | .S, [.int .i64 a, .int .i64 b, .int .i64 c, .int .i64 d] => some ⟨⟨a, b⟩, ⟨c, d⟩⟩
  | .R, [.lst .V r] => some r
  | .R, [.nil] => none
  | .I, [.int .i64 n] => some n
  | .B, [.bool b] => some b
  | .B, [.lit b] => some b
  | .B, [.prop p d] => some (@decide p d)
  | .P, [.int .i64 (.ofNat a), .int .i64 (.ofNat b)] => some (a, b)
  | _, _ => none
theorem LT.dec_av {t : LT} {cs : List SV} {x : t.ty} (h : t.dec cs = some x) : avs cs = (t.rowP x).map .p := by
  unfold LT.dec at h
  split at h <;> first | (cases h; done) | (cases h; rfl)
def LT.decs (t : LT) : Nat → List SV → Option (List t.ty)
  | 0, [] => some []
  | 0, _ => none
  | n + 1, cs => match t.dec (cs.take t.w), t.decs n (cs.drop t.w) with
    | some x, some l => some (x :: l)
    | _, _ => none
theorem LT.decs_av {t : LT} : ∀ {n : Nat} {cs : List SV} {l : List t.ty}, t.decs n cs = some l → l.length = n ∧ avs cs = (t.enc l).map .p
  | 0, [], l, h => by simp only [LT.decs, Option.some.injEq] at h; subst h; exact ⟨rfl, rfl⟩
  | 0, _ :: _, l, h => by simp [LT.decs] at h
  | n + 1, cs, l, h => by
    unfold LT.decs at h
    split at h
    · rename_i x l' h1 h2
      cases h
      obtain ⟨h3, h4⟩ := LT.decs_av h2
      have h5 := LT.dec_av h1
      refine ⟨by simp [h3], ?_⟩
      have h6 : avs cs = avs (cs.take t.w) ++ avs (cs.drop t.w) := by rw [← avs_append, List.take_append_drop]
      rw [h6, h5, h4]
      simp only [LT.enc, List.flatMap_cons, List.map_append]
    · cases h
theorem allP_mapp : ∀ l : List PV, allP (l.map .p) = some l
  | [] => rfl
  | x :: l => by simp only [List.map_cons, allP, allP_mapp l, Option.map_some]
theorem mkAgg_mapp (l : List PV) : mkAgg (l.map .p) = .p (.agg l) := by unfold mkAgg; rw [allP_mapp]
theorem LT.sub (t : LT) (l : List t.ty) {i : Nat} (h : i < l.length) (off m : Nat) (hm : off + m ≤ t.w) :
    ((t.enc l).drop (i * t.w + off)).take m = ((t.rowP (t.nth l i)).drop off).take m := by
  rw [LT.nth_eq t l h]
  exact t.wide.sub l h off m hm
theorem LT.get (t : LT) (l : List t.ty) {i : Nat} (h : i < l.length) (off : Nat) (hm : off < t.w) :
    (t.enc l)[i * t.w + off]? = (t.rowP (t.nth l i))[off]? := by
  have h1 := congrArg (fun l => l[0]?) (LT.sub t l h off 1 (by omega))
  simpa [List.getElem?_take, List.getElem?_drop] using h1
def svK : Value → SV
  | .int k n => .int k n
  | .bool b => .lit b
  | .string s => .str s
  | .slice none 0 0 => .nil
  | _ => .any
theorem svK_av (v : Value) : (svK v).av = constA v := by
  unfold svK
  split <;> simp only [SV.av, constA]
theorem svK_avs : ∀ vs : List Value, avs (vs.map svK) = vs.map constA
  | [] => rfl
  | v :: vs => by simp only [List.map_cons, avs, svK_av, svK_avs vs]
def svC : Value → SV
  | .agg cs => if cs.toList.all (·.oneCell') = true then .agg (cs.toList.map svK) else .any
  | .tuple vs => if vs.toList = [] then .undef else .any
  | v => svK v
theorem svC_av (v : Value) : (svC v).av = ofConst v := by
  unfold svC
  split
  · split <;> rename_i h <;> simp only [ofConst, SV.av, svK_avs, h] <;> rfl
  · split <;> rename_i h <;> simp only [ofConst, SV.av, h, if_true, if_false]
  · rename_i h1 h2
    rw [svK_av]
    unfold ofConst
    split <;> simp_all
abbrev Frm := List (Nat × SV)
def Frm.at : Frm → Nat → SV
  | [], _ => .undef
  | (d, v) :: F, t => match Nat.beq t d with | true => v | false => Frm.at F t
theorem Frm.at_cons (d : Nat) (v : SV) (F : Frm) (t : Nat) : Frm.at ((d, v) :: F) t = if t = d then v else Frm.at F t := by
  conv => lhs; unfold Frm.at
  split
  · rename_i h; rw [if_pos (Nat.eq_of_beq_eq_true h)]
  · rename_i h; rw [if_neg (Nat.ne_of_beq_eq_false h)]
def Frm.av (n : Nat) (F : Frm) : List AV := (List.range n).map fun t => (F.at t).av
theorem Frm.av_length (n : Nat) (F : Frm) : (F.av n).length = n := by simp [Frm.av]
theorem Frm.av_getD {n : Nat} {F : Frm} {t : Nat} (h : t < n) : (F.av n).getD t .any = (F.at t).av := by
  unfold Frm.av
  rw [List.getD_eq_getElem?_getD, List.getElem?_map, List.getElem?_range h]; rfl
theorem Frm.av_put {n : Nat} {F : Frm} {d : Nat} {v : SV} (h : d < n) : putA (F.av n) (some d) v.av = Frm.av n ((d, v) :: F) := by
  unfold putA
  apply List.ext_getElem?
  intro i
  rw [List.getElem?_set]
  by_cases hi : i < n
  · by_cases e : d = i
    · subst e
      rw [if_pos rfl, if_pos (by rw [Frm.av_length]; exact h)]
      unfold Frm.av
      rw [List.getElem?_map, List.getElem?_range h, Option.map_some, Frm.at_cons, if_pos rfl]
    · rw [if_neg e]
      unfold Frm.av
      rw [List.getElem?_map, List.getElem?_map, List.getElem?_range hi, Option.map_some, Option.map_some, Frm.at_cons, if_neg (fun h => e h.symm)]
  · have h1 : (Frm.av n ((d, v) :: F))[i]? = none := List.getElem?_eq_none (by rw [Frm.av_length]; omega)
    have h2 : (F.av n)[i]? = none := List.getElem?_eq_none (by rw [Frm.av_length]; omega)
    rw [h1]
    by_cases e : d = i
    · omega
    · rw [if_neg e, h2]
def evalS (n : Nat) (F : Frm) : Operand → SV
  | .tmp t => (match Nat.blt t n with | true => F.at t | false => .any)
  | .const v => svC v
  | .func f => .fnp f [] []
  | .global _ => .any
theorem evalS_av {n : Nat} {F : Frm} (x : Operand) : (evalS n F x).av = evalA (F.av n) x := by
  cases x with
  | tmp t =>
    show (match Nat.blt t n with | true => F.at t | false => SV.any).av = (F.av n).getD t .any
    cases h : Nat.blt t n with
    | true => rw [Frm.av_getD (by simp [Nat.blt] at h; omega)]
    | false =>
      have h2 : ¬ (t + 1 ≤ n) := fun hh => by
        have := Nat.ble_eq_true_of_le hh
        rw [show Nat.blt t n = Nat.ble (t + 1) n from rfl] at h
        rw [h] at this; cases this
      rw [List.getD_eq_getElem?_getD, List.getElem?_eq_none (by rw [Frm.av_length]; exact Nat.le_of_not_lt h2)]; rfl
  | const v => exact svC_av v
  | func f => rfl
  | global g => rfl
inductive SOb where
  | box (ty : TypeId) (cells : List SV)
  | row (ty : TypeId) (t : LT) (l : List t.ty)
  | arr (ty esz : Nat) (cells : List SV)
def SOb.ob : SOb → Ob
  | .box ty cs => ⟨ty, 0, avs cs⟩
  | .row ty t l => ⟨ty, t.w, (t.enc l).map .p⟩
  | .arr ty esz cs => ⟨ty, esz, avs cs⟩
abbrev SSto := List (Nat × Option SOb)
def SSto.sto (L : SSto) : Sto := L.map fun q => (q.1, q.2.map SOb.ob)
def SSto.at : SSto → Nat → Option SOb
  | [], _ => none
  | (k, x) :: L, s => match Nat.beq s k with | true => x | false => SSto.at L s
theorem SSto.look (L : SSto) (s : Nat) : look L.sto s = (L.at s).map SOb.ob := by
  induction L with
  | nil => rfl
  | cons q L ih =>
    obtain ⟨k, x⟩ := q
    show (if s = k then x.map SOb.ob else Go.Proofs.YtdaeofhdgabhjaaGreat.look (SSto.sto L) s) = _
    show _ = (match Nat.beq s k with | true => x | false => SSto.at L s).map SOb.ob
    cases h : Nat.beq s k with
    | true => rw [if_pos (Nat.eq_of_beq_eq_true h)]
    | false => rw [if_neg (Nat.ne_of_beq_eq_false h)]; exact ih
end Go.Proofs.YtdaeofhdgabhjaaGreat
namespace Go.Proofs.YtdaeofhdgabhjaaGreat
open Go.RowKit
def in64 (x : Int) : Prop := -9223372036854775808 ≤ x ∧ x ≤ 9223372036854775807
theorem wrap_in64 {x : Int} (h : in64 x) : IntKind.i64.wrap x = x := by
  unfold in64 at h
  exact IntWalk.i64_in _ (by omega)
def ix (a : Int) (n : Nat) : Prop := 0 ≤ a ∧ a < (n : Int)
theorem ix_nat {k n : Nat} (h : k < n) : ix k n := ⟨by omega, by omega⟩
theorem ix_mod {k n : Nat} (h : 0 < n) : ix (((k % n : Nat) : Int)) n := ix_nat (Nat.mod_lt _ h)
abbrev SR := Option (List Prop × SV × List Nat × SSto)
abbrev SE := Operand → SV
abbrev Sg := Nat → Option SOb
def SE.a (E : SE) : Operand → AV := fun x => (E x).av
def Sg.a (σ : Sg) : Nat → Option Ob := fun s => (σ s).map SOb.ob
def SopOk (P : Program) (n : Nat) (o : Oper) (E : SE) (σ : Sg) (R : SR) : Prop :=
  ∀ ps r rd W, R = some (ps, r, rd, W) → (∀ p ∈ ps, p) → AOp P n o E.a σ.a fun r' R' W' => r' = r.av ∧ R' = rd ∧ W' = W.sto
def SV.ok : SV → Prop
  | .pe _ l i _ => i < l.length
  | _ => True
def SV.ape : SV → Bool
  | .pe .. => true
  | _ => false
theorem SV.ok_of {v : SV} (h : v.ape = false) : v.ok := by cases v <;> first | trivial | cases h
def pure1 (r : SV) : SR := some ([], r, [], [])
def cellsS (x : SV) : Option (List SV) := match x with
  | .agg l => some l
  | .tup _ => none
  | .any => none
  | .undef => none
  | .sl n cs => (match allP (avs cs) with | some _ => some [.sl n cs] | none => none)
  | .pro cs o => (match allP (avs cs) with | some _ => some [.pro cs o] | none => none)
  | .fnp f a b => (match allP (avs a), allP (avs b) with | some _, some _ => some [.fnp f a b] | _, _ => none)
  | .clo1 .. => none
  | .clo2 .. => none
  | x => some [x]
theorem cellsA_mkAgg (l : List AV) : cellsA (mkAgg l) = some l := by
  unfold mkAgg
  cases h : allP l with
  | some q => rw [show cellsA (.p (.agg q)) = some (q.map .p) from rfl, ← allP_map h]
  | none => rfl
theorem cellsS_av {x : SV} {l : List SV} (h : cellsS x = some l) : cellsA x.av = some (avs l) := by
  cases x <;> simp only [cellsS, reduceCtorEq, Option.some.injEq] at h <;> first | (subst h; rfl) | skip
  · subst h; exact cellsA_mkAgg _
  · rename_i n cs
    cases hq : allP (avs cs) with
    | none => rw [hq] at h; cases h
    | some q => rw [hq] at h; cases h; simp only [avs, SV.av, hq, cellsA]
  · rename_i cs o
    cases hq : allP (avs cs) with
    | none => rw [hq] at h; cases h
    | some q => rw [hq] at h; cases h; simp only [avs, SV.av, hq, cellsA]
  · rename_i f a b
    cases ha : allP (avs a) <;> cases hb : allP (avs b) <;> rw [ha, hb] at h <;> simp only [reduceCtorEq, Option.some.injEq] at h
    subst h
    simp only [avs, SV.av, ha, hb, cellsA]
def setS (cs : List SV) (off : Nat) : List SV → List SV
  | [] => cs
  | x :: l => setS (cs.set off x) (off + 1) l
theorem setS_av : ∀ (l cs : List SV) (off : Nat), avs (setS cs off l) = setA (avs cs) off (avs l)
  | [], cs, off => rfl
  | x :: l, cs, off => by rw [setS, setS_av l, avs_set]; rfl
def fillS (place : Nat → Option (Nat × Nat)) (cells : List SV) : List (Nat × SV) → Option (List SV)
  | [] => some cells
  | (i, v) :: rest => match place i, cellsS v with
    | some (off, size), some l => (match Nat.beq l.length size, Nat.ble (off + size) cells.length with
      | true, true => fillS place (setS cells off l) rest
      | _, _ => none)
    | _, _ => none
theorem fillS_av {place : Nat → Option (Nat × Nat)} : ∀ (parts : List (Nat × SV)) {cells l : List SV}, fillS place cells parts = some l → fillA place (avs cells) (parts.map fun q => (q.1, q.2.av)) = some (avs l)
  | [], cells, l, h => by simp only [fillS, Option.some.injEq] at h; subst h; rfl
  | (i, v) :: rest, cells, l, h => by
    unfold fillS at h
    split at h
    · rename_i off size m h1 h2
      split at h
      · rename_i h3 h4
        have := fillS_av rest h
        show (match place i, cellsA v.av with | some (off, size), some l => if l.length = size ∧ off + size ≤ (avs cells).length then fillA place (setA (avs cells) off l) (rest.map fun (q : Nat × SV) => (q.1, q.2.av)) else none | _, _ => none) = _
        rw [h1, cellsS_av h2]
        dsimp only
        rw [if_pos ⟨by rw [avs_length]; exact Nat.eq_of_beq_eq_true h3, by rw [avs_length]; exact Nat.le_of_ble_eq_true h4⟩, ← setS_av]
        exact this
      · cases h
    · cases h
def loadS (P : Program) (t : TypeId) (cs : List SV) (off : Nat) : Option SV := match tok P t, tagg P t with
  | true, true => (match Nat.beq ((cs.drop off).take (tsize P t)).length (tsize P t) with | true => some (.agg ((cs.drop off).take (tsize P t))) | false => none)
  | true, false => cs[off]?
  | false, _ => none
theorem loadS_av {P : Program} {t : TypeId} {cs : List SV} {off : Nat} {r : SV} (h : loadS P t cs off = some r) {K : AV → Prop} (hK : K r.av) : loadA P t (avs cs) off K := by
  unfold loadS at h
  split at h
  · rename_i h1 h2
    split at h
    · rename_i h3
      cases h
      refine ⟨h1, ?_⟩
      rw [if_pos h2]
      refine ⟨_, rfl, ?_, ?_⟩
      · rw [← avs_drop, ← avs_take, avs_length]; exact Nat.eq_of_beq_eq_true h3
      · rw [← avs_drop, ← avs_take]; exact hK
    · cases h
  · rename_i h1 h2
    refine ⟨h1, ?_⟩
    rw [if_neg (by rw [h2]; simp)]
    exact ⟨r.av, by rw [avs_get, h]; rfl, hK⟩
  · cases h
theorem loadP_of {P : Program} {t : TypeId} {cs : List PV} {off : Nat} {K : AV → Prop} (h : loadA P t (cs.map .p) off K) : loadP P t cs off fun r => K (.p r) := by
  obtain ⟨h1, h2⟩ := h
  refine ⟨h1, ?_⟩
  split at h2
  · rename_i hg
    rw [if_pos hg]
    obtain ⟨l, h3, h4, h5⟩ := h2
    refine ⟨(cs.drop off).take (tsize P t), rfl, ?_, ?_⟩
    · rw [← h3] at h4; simpa using h4
    · rw [← h3, ← List.map_drop, ← List.map_take, mkAgg_mapp] at h5; exact h5
  · rename_i hg
    rw [if_neg hg]
    obtain ⟨x, h3, h4⟩ := h2
    rw [List.getElem?_map] at h3
    cases hc : cs[off]? with
    | none => rw [hc] at h3; cases h3
    | some y => rw [hc] at h3; cases h3; exact ⟨y, rfl, h4⟩
theorem load_elem {P : Program} {t : TypeId} {lt : LT} {l : List lt.ty} {i off : Nat} (hi : i < l.length) (hoff : off + (match tagg P t with | true => tsize P t | false => 1) ≤ lt.w) {f : List PV → List AV} (hf : f = List.map .p) {K : AV → Prop}
    (h : loadA P t (f (lt.rowP (lt.nth l i))) off K) : loadA P t (f (lt.enc l)) (i * lt.w + off) K := by
  subst hf
  obtain ⟨h1, h2⟩ := h
  refine ⟨h1, ?_⟩
  split at h2
  · rename_i hg
    rw [hg] at hoff
    rw [if_pos hg]
    obtain ⟨m, h3, h4, h5⟩ := h2
    refine ⟨m, ?_, h4, h5⟩
    rw [← List.map_drop, ← List.map_take, LT.sub lt l hi off _ hoff, ← h3, List.map_take, List.map_drop]
  · rename_i hg
    have hg' : tagg P t = false := by simpa using hg
    rw [hg'] at hoff
    rw [if_neg hg]
    obtain ⟨x, h3, h4⟩ := h2
    refine ⟨x, ?_, h4⟩
    rw [List.getElem?_map] at h3 ⊢
    rw [LT.get lt l hi off (by dsimp only at hoff; omega)]; exact h3
def sload (P : Program) (t : TypeId) (x : SV) (σ : Sg) : SR := match x with
  | .pe lt l i off => (match Nat.ble (off + (match tagg P t with | true => tsize P t | false => 1)) lt.w, loadS P t (lt.row (lt.nth l i)) off with
    | true, some r => some ([], r, [], [])
    | _, _ => none)
  | .pro cs off => (match allP (avs cs), loadS P t cs off with
    | some _, some r => some ([], r, [], [])
    | _, _ => none)
  | .ptb F n off => (match tok P t, tagg P t with
    | true, false => some ([off < n], .bool (F off), [], [])
    | _, _ => none)
  | .ptr s off => (match σ s with
    | some (.box _ cs) => (match loadS P t cs off with | some r => some ([], r, [s], []) | none => none)
    | some (.arr _ _ cs) => (match loadS P t cs off with | some r => some ([], r, [s], []) | none => none)
    | _ => none)
  | .pte s lt i off => (match σ s with
    | some (.row _ lt' l) => (match decEq lt' lt, Nat.ble (off + (match tagg P t with | true => tsize P t | false => 1)) lt'.w, loadS P t (lt'.row (lt'.nth l i)) off with
      | .isTrue _, true, some r => some ([i < l.length], r, [s], [])
      | _, _, _ => none)
    | _ => none)
  | _ => none
theorem sload_ok {P : Program} {n : Nat} {o : Oper} {E : SE} {σ : Sg} {t : TypeId} {x : Operand} (ho : o.op = .load t x) (hx : (E x).ok) : SopOk P n o E σ (sload P t (E x) σ) := by
  intro ps r rd W h hp
  unfold AOp; rw [ho]; dsimp only
  unfold sload at h
  split at h
  · rename_i lt l i off e
    split at h <;> cases h
    rename_i h1 h2
    rw [e] at hx
    rw [show E.a x = .p (.pro (lt.enc l) (i * lt.w + off)) by unfold SE.a; rw [e]; rfl]
    dsimp only
    refine loadP_of (K := fun r' => r' = r.av ∧ _) ?_
    refine load_elem hx (Nat.le_of_ble_eq_true h1) rfl ?_
    rw [← LT.row_av]
    exact loadS_av h2 ⟨rfl, rfl, rfl⟩
  · rename_i cs off e
    split at h <;> cases h
    rename_i q h1 h2
    rw [show E.a x = .p (.pro q off) by unfold SE.a; rw [e]; simp only [SV.av, h1]]
    dsimp only
    refine loadP_of (K := fun r' => r' = r.av ∧ _) ?_
    rw [← allP_map h1]
    exact loadS_av h2 ⟨rfl, rfl, rfl⟩
  · rename_i F m off e
    split at h <;> cases h
    rename_i h1 h2
    have hlt : off < m := hp _ (List.mem_singleton.2 rfl)
    rw [show E.a x = .p (.pro (tabC m F) off) by unfold SE.a; rw [e]; rfl]
    dsimp only
    refine loadP_of (K := fun r' => r' = (SV.bool (F off)).av ∧ _) ?_
    exact ⟨h1, by rw [if_neg (by rw [h2]; simp)]; exact ⟨.p (.bool (F off)), by rw [List.getElem?_map, tabC_get F hlt]; rfl, rfl, rfl, rfl⟩⟩
  · rename_i s off e
    rw [show E.a x = .ptr s off by unfold SE.a; rw [e]; rfl]
    dsimp only
    split at h
    · rename_i ty cs hs
      split at h <;> cases h
      rename_i h2
      refine ⟨_, by unfold Sg.a; rw [hs]; rfl, ?_⟩
      exact loadS_av h2 ⟨rfl, rfl, rfl⟩
    · rename_i ty ez cs hs
      split at h <;> cases h
      rename_i h2
      refine ⟨_, by unfold Sg.a; rw [hs]; rfl, ?_⟩
      exact loadS_av h2 ⟨rfl, rfl, rfl⟩
    · cases h
  · rename_i s lt i off e
    rw [show E.a x = .ptr s (i * lt.w + off) by unfold SE.a; rw [e]; rfl]
    dsimp only
    split at h
    · rename_i ty lt' l hs
      split at h <;> cases h
      rename_i he h1 h2 h3
      subst he
      refine ⟨_, by unfold Sg.a; rw [hs]; rfl, ?_⟩
      refine load_elem (hp _ (by simp)) (Nat.le_of_ble_eq_true h2) rfl ?_
      rw [← LT.row_av]
      exact loadS_av h3 ⟨rfl, rfl, rfl⟩
    · cases h
  · cases h
def sstore (P : Program) (t : TypeId) (a v : SV) (σ : Sg) : SR := match cellsS v, (P.info? t).isSome with
  | some l, true => (match Nat.beq l.length (tsize P t) with
    | true => (match a with
      | .ptr s off => (match σ s with
        | some (.box ty cs) => (match Nat.ble (off + l.length) cs.length with | true => some ([], .undef, [s], [(s, some (.box ty (setS cs off l)))]) | false => none)
        | some (.arr ty ez cs) => (match Nat.ble (off + l.length) cs.length with | true => some ([], .undef, [s], [(s, some (.arr ty ez (setS cs off l)))]) | false => none)
        | _ => none)
      | .pte s lt i off => (match σ s with
        | some (.row ty lt' m) => (match decEq lt' lt, Nat.ble (off + l.length) lt'.w, lt'.dec (setS (lt'.row (lt'.nth m i)) off l) with
          | .isTrue _, true, some e => some ([i < m.length], .undef, [s], [(s, some (.row ty lt' (m.set i e)))])
          | _, _, _ => none)
        | _ => none)
      | _ => none)
    | false => none)
  | _, _ => none
theorem setA_append {a b c l : List AV} {k off : Nat} (hk : k = a.length) (hoff : off + l.length ≤ b.length) : setA (a ++ b ++ c) (k + off) l = a ++ setA b off l ++ c := by
  induction l generalizing b off with
  | nil => rfl
  | cons x l ih =>
    simp only [List.length_cons] at hoff
    rw [setA, setA, List.append_assoc, List.set_append_right _ _ (by omega), show k + off - a.length = off by omega, List.set_append_left _ _ (by omega), ← List.append_assoc, show k + off + 1 = k + (off + 1) by omega, ih (by simp; omega)]
theorem enc_set (t : LT) (l : List t.ty) {i : Nat} (h : i < l.length) (e : t.ty) : t.enc l = t.enc (l.take i) ++ t.rowP l[i] ++ t.enc (l.drop (i + 1)) ∧ t.enc (l.set i e) = t.enc (l.take i) ++ t.rowP e ++ t.enc (l.drop (i + 1)) := by
  constructor
  · conv => lhs; rw [← List.take_append_drop i l, ← List.getElem_cons_drop h]
    unfold LT.enc
    rw [List.flatMap_append, List.flatMap_cons, List.append_assoc]
  · rw [List.set_eq_take_append_cons_drop, if_pos h]
    unfold LT.enc
    rw [List.flatMap_append, List.flatMap_cons, List.append_assoc]
theorem sstore_ok {P : Program} {n : Nat} {o : Oper} {E : SE} {σ : Sg} {t : TypeId} {a x : Operand} (ho : o.op = .store t a x) : SopOk P n o E σ (sstore P t (E a) (E x) σ) := by
  intro ps r rd W h hp
  unfold AOp; rw [ho]; dsimp only
  unfold sstore at h
  split at h
  case h_2 => cases h
  rename_i l hl ht
  split at h
  case h_2 => cases h
  rename_i hsz
  have hl' : cellsA (E.a x) = some (avs l) := cellsS_av hl
  have hsz' : (avs l).length = tsize P t := by rw [avs_length]; exact Nat.eq_of_beq_eq_true hsz
  split at h
  · rename_i s off e
    rw [show E.a a = .ptr s off by unfold SE.a; rw [e]; rfl]
    unfold storeA; dsimp only
    split at h
    · rename_i ty cs hs
      split at h <;> cases h
      rename_i h2
      refine ⟨_, _, by unfold Sg.a; rw [hs]; rfl, hl', hsz', ht, ?_, rfl, rfl, ?_⟩
      · show off + (avs l).length ≤ (avs cs).length
        rw [avs_length, avs_length]; exact Nat.le_of_ble_eq_true h2
      · show [(s, some (⟨ty, 0, setA (avs cs) off (avs l)⟩ : Ob))] = [(s, some (⟨ty, 0, avs (setS cs off l)⟩ : Ob))]
        rw [setS_av]
    · rename_i ty ez cs hs
      split at h <;> cases h
      rename_i h2
      refine ⟨_, _, by unfold Sg.a; rw [hs]; rfl, hl', hsz', ht, ?_, rfl, rfl, ?_⟩
      · show off + (avs l).length ≤ (avs cs).length
        rw [avs_length, avs_length]; exact Nat.le_of_ble_eq_true h2
      · show [(s, some (⟨ty, ez, setA (avs cs) off (avs l)⟩ : Ob))] = [(s, some (⟨ty, ez, avs (setS cs off l)⟩ : Ob))]
        rw [setS_av]
    · cases h
  · rename_i s lt i off e
    rw [show E.a a = .ptr s (i * lt.w + off) by unfold SE.a; rw [e]; rfl]
    unfold storeA; dsimp only
    split at h
    · rename_i ty lt' m hs
      split at h <;> cases h
      rename_i he h1 _ h2 h3
      subst he
      have hi : i < m.length := hp _ (by simp)
      obtain ⟨e1, e2⟩ := enc_set lt' m hi h1
      have h2' := Nat.le_of_ble_eq_true h2
      have hlen : (lt'.enc (m.take i)).length = i * lt'.w := by rw [lt'.wide.length, List.length_take, Nat.min_eq_left (by omega)]
      refine ⟨_, _, by unfold Sg.a; rw [hs]; rfl, hl', hsz', ht, ?_, rfl, rfl, ?_⟩
      · show i * lt'.w + off + (avs l).length ≤ ((lt'.enc m).map AV.p).length
        rw [avs_length, List.length_map, lt'.wide.length]
        have : (i + 1) * lt'.w ≤ m.length * lt'.w := Nat.mul_le_mul_right _ (by omega)
        rw [Nat.add_mul] at this; omega
      · show [(s, some (⟨ty, lt'.w, setA ((lt'.enc m).map AV.p) (i * lt'.w + off) (avs l)⟩ : Ob))] = [(s, some (⟨ty, lt'.w, (lt'.enc (m.set i h1)).map AV.p⟩ : Ob))]
        rw [e2, List.map_append, List.map_append, ← LT.dec_av h3, setS_av, LT.row_av, LT.nth_eq lt' m hi]
        conv => lhs; rw [e1, List.map_append, List.map_append]
        rw [setA_append (by rw [List.length_map, hlen]) (by rw [avs_length, List.length_map, (lt'.wide []).2]; exact h2')]
    · cases h
  · cases h
def szero (P : Program) (t : TypeId) : Option (List SV) := match tzone P t with
  | true => (match P.info? t with
    | some i => (match i.zero with | some z => some (z.cells.toList.map svK) | none => none)
    | none => none)
  | false => none
theorem szero_av {P : Program} {t : TypeId} {z : List SV} (h : szero P t = some z) : tzero P t = some (avs z) ∧ tzone P t = true := by
  unfold szero at h
  split at h
  · rename_i hz
    split at h
    · rename_i i hi
      split at h <;> cases h
      rename_i zv hzv
      refine ⟨?_, hz⟩
      unfold tzero
      rw [hi, Option.bind_some, hzv, Option.map_some, svK_avs]
    · cases h
  · cases h
def salloc (P : Program) (n : Nat) (t : TypeId) : SR := match szero P t with
  | some z => some ([], .ptr n 0, [], [(n, some (.box t z))])
  | none => none
theorem salloc_ok {P : Program} {n : Nat} {o : Oper} {E : SE} {σ : Sg} {t : TypeId} (ho : o.op = .alloc t) : SopOk P n o E σ (salloc P n t) := by
  intro ps r rd W h hp
  unfold AOp; rw [ho]; dsimp only
  unfold salloc at h
  split at h <;> cases h
  rename_i z hz
  obtain ⟨h1, h2⟩ := szero_av hz
  exact ⟨_, h1, h2, rfl, rfl, rfl⟩
def sbox (n : Nat) (t : TypeId) (x : SV) : SR := match cellsS x with
  | some l => some ([], .ptr n 0, [], [(n, some (.box t l))])
  | none => none
theorem sbox_ok {P : Program} {n : Nat} {o : Oper} {E : SE} {σ : Sg} {t : TypeId} {x : Operand} (ho : o.op = .box t x) : SopOk P n o E σ (sbox n t (E x)) := by
  intro ps r rd W h hp
  unfold AOp; rw [ho]; dsimp only
  unfold sbox at h
  split at h <;> cases h
  rename_i l hl
  exact ⟨_, cellsS_av hl, rfl, rfl, rfl⟩
def sbuild (P : Program) (t : TypeId) (parts : List (Nat × SV)) : SR := match szero P t, partsOk P t with
  | some z, true => (match fillS (places P t) z parts with | some l => some ([], .agg l, [], []) | none => none)
  | _, _ => none
theorem sbuild_ok {P : Program} {n : Nat} {o : Oper} {E : SE} {σ : Sg} {t : TypeId} {parts : Array (Nat × Operand)} (ho : o.op = .build t parts) : SopOk P n o E σ (sbuild P t (parts.toList.map fun q => (q.1, E q.2))) := by
  intro ps r rd W h hp
  unfold AOp; rw [ho]; dsimp only
  unfold sbuild at h
  split at h
  · rename_i z hz hk
    split at h <;> cases h
    rename_i l hl
    obtain ⟨h1, h2⟩ := szero_av hz
    have := fillS_av _ hl
    rw [List.map_map] at this
    exact ⟨_, h1, h2, hk, _, this, rfl, rfl, rfl⟩
  · cases h
def repS : Nat → List SV → List SV
  | 0, _ => []
  | m + 1, z => z ++ repS m z
theorem repS_av (z : List SV) : ∀ m, avs (repS m z) = repA m (avs z)
  | 0 => rfl
  | m + 1 => by rw [repS, avs_append, repS_av z m]; rfl
def sbslice (P : Program) (n : Nat) (t : TypeId) (len : Nat) (parts : List (Nat × SV)) : SR := match telem P t with
  | some e => (match szero P e, Nat.ble (len * tsize P e) 1000000 with
    | some (z0 :: zs), true => (match fillS (fun i => some (i * tsize P e, tsize P e)) (repS len (z0 :: zs)) parts with
      | some l => some ([], .ownx n len, [], [(n, some (.arr e (tsize P e) l))])
      | none => none)
    | _, _ => none)
  | none => none
theorem sbslice_ok {P : Program} {n : Nat} {o : Oper} {E : SE} {σ : Sg} {t : TypeId} {len : Nat} {parts : Array (Nat × Operand)} (ho : o.op = .buildSlice t len parts) : SopOk P n o E σ (sbslice P n t len (parts.toList.map fun q => (q.1, E q.2))) := by
  intro ps r rd W h hp
  unfold AOp; rw [ho]; dsimp only
  unfold sbslice at h
  split at h
  · rename_i e he
    split at h
    · rename_i z0 zs hz hb
      split at h <;> cases h
      rename_i l hl
      obtain ⟨h1, h2⟩ := szero_av hz
      have := fillS_av _ hl
      rw [List.map_map, repS_av] at this
      exact ⟨e, _, he, h1, h2, (by simp [avs]), Nat.le_of_ble_eq_true hb, _, this, rfl, rfl, rfl⟩
    · cases h
  · cases h
def spick (c a b : SV) : Option SV := match c with
  | .lit true => some a
  | .lit false => some b
  | .prop p d => (match a, b with
    | .int .i64 x, .int .i64 y => some (.int .i64 (@ite _ p d x y))
    | .bool x, .bool y => some (.bool (@ite _ p d x y))
    | .prop q e, .lit y => some (.bool (@ite _ p d (@decide q e) y))
    | .lit x, .prop q e => some (.bool (@ite _ p d x (@decide q e)))
    | .bool x, .lit y => some (.bool (@ite _ p d x y))
    | .lit x, .bool y => some (.bool (@ite _ p d x y))
    | _, _ => none)
  | .bool c => (match a, b with
    | .int .i64 x, .int .i64 y => some (.int .i64 (if c = true then x else y))
    | .bool x, .bool y => some (.bool (if c = true then x else y))
    | .bool x, .lit y => some (.bool (if c = true then x else y))
    | .lit x, .bool y => some (.bool (if c = true then x else y))
    | _, _ => none)
  | _ => none
theorem spick_av {c a b r : SV} (h : spick c a b = some r) {K : AV → Prop} (hK : K r.av) : pickA c.av a.av b.av K := by
  unfold spick at h
  split at h
  · cases h; exact hK
  · cases h; exact hK
  · rename_i p d
    split at h <;> cases h <;> (simp only [SV.av, pickA] at *; cases d <;> rename_i hp <;> simpa [hp] using hK)
  · rename_i c
    split at h <;> cases h <;> (simp only [SV.av, pickA] at *; cases c <;> simpa using hK)
  · cases h
def sfaddr (P : Program) (t : TypeId) (x : SV) (f : Nat) : Option SV := match foff P t f with
  | some q => (match x with
    | .ptr s off => some (.ptr s (off + q.1))
    | .pe lt l i off => some (.pe lt l i (off + q.1))
    | .pte s lt i off => some (.pte s lt i (off + q.1))
    | .pro cs off => (match allP (avs cs) with | some _ => some (.pro cs (off + q.1)) | none => none)
    | _ => none)
  | none => none
theorem sfaddr_av {P : Program} {t : TypeId} {x : SV} {f : Nat} {r : SV} (h : sfaddr P t x f = some r) {K : AV → Prop} (hK : K r.av) : faddrA P t f x.av K ∧ (x.ok → r.ok) := by
  unfold sfaddr at h
  split at h
  · rename_i q hq
    split at h
    · cases h; exact ⟨⟨q, hq, hK⟩, fun _ => trivial⟩
    · cases h; exact ⟨⟨q, hq, by simpa [SV.av, Nat.add_assoc] using hK⟩, fun h => h⟩
    · cases h; exact ⟨⟨q, hq, by simpa [SV.av, Nat.add_assoc] using hK⟩, fun _ => trivial⟩
    · rename_i cs off
      split at h <;> cases h
      rename_i m hm
      refine ⟨⟨q, hq, ?_⟩, fun _ => trivial⟩
      simp only [SV.av, hm] at hK ⊢
      exact hK
    · cases h
  · cases h
def sfield (P : Program) (t : TypeId) (x : SV) (f : Nat) : Option SV := match foff P t f, x with
  | some q, .agg l => (match tok P q.2, tagg P q.2 with
    | true, true => some (.agg ((l.drop q.1).take (tsize P q.2)))
    | true, false => l[q.1]?
    | false, _ => none)
  | _, _ => none
theorem sfield_av {P : Program} {t : TypeId} {x : SV} {f : Nat} {r : SV} (h : sfield P t x f = some r) {K : AV → Prop} (hK : K r.av) : fieldA P t f x.av K := by
  unfold sfield at h
  split at h
  · rename_i q l hq
    refine ⟨q, hq, ?_⟩
    have key : partA P q.2 (avs l) q.1 K := by
      split at h
      · rename_i h1 h2
        cases h
        refine ⟨h1, ?_⟩
        rw [if_pos h2]
        exact ⟨_, rfl, by rw [← avs_drop, ← avs_take]; exact hK⟩
      · rename_i h1 h2
        refine ⟨h1, ?_⟩
        rw [if_neg (by rw [h2]; simp)]
        exact ⟨r.av, by rw [avs_get, h]; rfl, hK⟩
      · cases h
    show (match mkAgg (avs l) with | .agg l => partA P q.2 l q.1 K | .p (.agg l) => partA P q.2 (l.map .p) q.1 K | _ => False)
    unfold mkAgg
    cases hq : allP (avs l) with
    | none => exact key
    | some m => dsimp only; rw [← allP_map hq]; exact key
  · cases h
def siaddr (P : Program) (t : TypeId) (x i : SV) : Option (List Prop × SV) := match i with
  | .int _ a => (match x with
    | .lst lt l => (match telem P t with
      | some e => (match (P.info? e).isSome, Nat.beq (tsize P e) lt.w with | true, true => some ([ix a l.length], .pe lt l a.toNat 0) | _, _ => none)
      | none => none)
    | .own s lt n => (match telem P t with
      | some e => (match (P.info? e).isSome, Nat.beq (tsize P e) lt.w with | true, true => some ([ix a n], .pte s lt a.toNat 0) | _, _ => none)
      | none => none)
    | .owns s lt o n => (match telem P t with
      | some e => (match (P.info? e).isSome, Nat.beq (tsize P e) lt.w with | true, true => some ([ix a n], .pte s lt (o + a.toNat) 0) | _, _ => none)
      | none => none)
    | .ownx s n => (match telem P t with
      | some e => (match (P.info? e).isSome with | true => some ([ix a n], .ptr s (a.toNat * tsize P e)) | _ => none)
      | none => none)
    | .sl n cs => (match telem P t, allP (avs cs) with
      | some e, some _ => (match (P.info? e).isSome with | true => some ([ix a n], .pro cs (a.toNat * tsize P e)) | _ => none)
      | _, _ => none)
    | .ptr s off => (match tarr P t with
      | some q => (match (P.info? q.2).isSome with | true => some ([ix a q.1], .ptr s (off + a.toNat * tsize P q.2)) | _ => none)
      | none => none)
    | .pe lt l j off => (match tarr P t with
      | some q => (match (P.info? q.2).isSome with | true => some ([ix a q.1, j < l.length], .pe lt l j (off + a.toNat * tsize P q.2)) | _ => none)
      | none => none)
    | .ptb F m off => (match tarr P t with
      | some q => (match (P.info? q.2).isSome with | true => some ([ix a q.1], .ptb F m (off + a.toNat * tsize P q.2)) | _ => none)
      | none => none)
    | .pro cs off => (match tarr P t, allP (avs cs) with
      | some q, some _ => (match (P.info? q.2).isSome with | true => some ([ix a q.1], .pro cs (off + a.toNat * tsize P q.2)) | _ => none)
      | _, _ => none)
    | _ => none)
  | _ => none
theorem siaddr_av {P : Program} {t : TypeId} {x i : SV} {ps : List Prop} {r : SV} (h : siaddr P t x i = some (ps, r)) (hp : ∀ p ∈ ps, p) {K : AV → Prop} (hK : K r.av) : iaddrA P t x.av i.av K ∧ r.ok := by
  unfold siaddr at h
  split at h
  case h_2 => cases h
  rename_i k a
  split at h
  · rename_i lt l
    split at h
    · rename_i e he
      split at h <;> cases h
      rename_i h1 h2
      have hb := hp _ (List.mem_singleton.2 rfl); unfold ix at hb
      refine ⟨⟨e, he, h1, hb.1, hb.2, ?_⟩, show a.toNat < l.length by omega⟩
      rw [Nat.eq_of_beq_eq_true h2]; exact hK
    · cases h
  · rename_i s lt n
    split at h
    · rename_i e he
      split at h <;> cases h
      rename_i h1 h2
      have hb := hp _ (List.mem_singleton.2 rfl); unfold ix at hb
      refine ⟨⟨e, he, h1, hb.1, hb.2, ?_⟩, trivial⟩
      rw [Nat.eq_of_beq_eq_true h2, Nat.zero_add]; exact hK
    · cases h
  · rename_i s lt o n
    split at h
    · rename_i e he
      split at h <;> cases h
      rename_i h1 h2
      have hb := hp _ (List.mem_singleton.2 rfl); unfold ix at hb
      refine ⟨⟨e, he, h1, hb.1, hb.2, ?_⟩, trivial⟩
      rw [Nat.eq_of_beq_eq_true h2, ← Nat.add_mul]; exact hK
    · cases h
  · rename_i s n
    split at h
    · rename_i e he
      split at h <;> cases h
      rename_i h1
      have hb := hp _ (List.mem_singleton.2 rfl); unfold ix at hb
      refine ⟨⟨e, he, h1, hb.1, hb.2, ?_⟩, trivial⟩
      rw [Nat.zero_add]; exact hK
    · cases h
  · rename_i n cs
    split at h
    · rename_i e m he hm
      split at h <;> cases h
      rename_i h1
      have hb := hp _ (List.mem_singleton.2 rfl); unfold ix at hb
      refine ⟨?_, trivial⟩
      simp only [SV.av, hm] at hK ⊢
      exact ⟨e, he, h1, hb.1, hb.2, hK⟩
    · cases h
  · rename_i s off
    split at h
    · rename_i q hq
      split at h <;> cases h
      rename_i h1
      have hb := hp _ (List.mem_singleton.2 rfl); unfold ix at hb
      exact ⟨⟨q, hq, h1, hb.1, hb.2, hK⟩, trivial⟩
    · cases h
  · rename_i lt l j off
    split at h
    · rename_i q hq
      split at h <;> cases h
      rename_i h1
      have hb := hp _ (List.mem_cons_self); unfold ix at hb
      refine ⟨⟨q, hq, h1, hb.1, hb.2, ?_⟩, hp (j < l.length) (List.mem_cons_of_mem _ (List.mem_singleton.2 rfl))⟩
      rw [Nat.add_assoc]; exact hK
    · cases h
  · rename_i F m off
    split at h
    · rename_i q hq
      split at h <;> cases h
      rename_i h1
      have hb := hp _ (List.mem_singleton.2 rfl); unfold ix at hb
      exact ⟨⟨q, hq, h1, hb.1, hb.2, hK⟩, trivial⟩
    · cases h
  · rename_i cs off
    split at h
    · rename_i q m hq hm
      split at h <;> cases h
      rename_i h1
      have hb := hp _ (List.mem_singleton.2 rfl); unfold ix at hb
      refine ⟨?_, trivial⟩
      simp only [SV.av, hm] at hK ⊢
      exact ⟨q, hq, h1, hb.1, hb.2, hK⟩
    · cases h
  · cases h
def sextr (x : SV) (i : Nat) : Option SV := match x with
  | .tup l => l[i]?
  | _ => none
theorem sextr_av {x : SV} {i : Nat} {r : SV} (h : sextr x i = some r) {K : AV → Prop} (hK : K r.av) : extrA x.av i K := by
  unfold sextr at h
  split at h
  · rename_i l
    have h1 : (avs l)[i]? = some r.av := by rw [avs_get, h]; rfl
    show extrA (mkTup (avs l)) i K
    unfold mkTup
    cases hq : allP (avs l) with
    | none => exact ⟨_, h1, hK⟩
    | some q =>
      rw [allP_map hq, List.getElem?_map] at h1
      cases hc : q[i]? with
      | none => rw [hc] at h1; cases h1
      | some y => rw [hc, Option.map_some, Option.some.injEq] at h1; exact ⟨y, hc, by rw [h1]; exact hK⟩
  · cases h
end Go.Proofs.YtdaeofhdgabhjaaGreat
namespace Go.Proofs.YtdaeofhdgabhjaaGreat
open Go.RowKit
def fitS (raw : Bool) (k : IntKind) (x : Int) : List Prop × SV := match raw, k with
  | false, .i64 => ([in64 x], .int .i64 x)
  | _, k => ([], .int k (k.wrap x))
theorem fitS_av {raw : Bool} {k : IntKind} {x : Int} (h : ∀ p ∈ (fitS raw k x).1, p) : (fitS raw k x).2.av = .p (.int k (k.wrap x)) := by
  unfold fitS at h ⊢
  split
  · rename_i e; rw [wrap_in64 (h _ (List.mem_singleton.2 rfl))]; rfl
  · rfl
def boolS : SV → Option Bool
  | .bool b => some b
  | .lit b => some b
  | .prop p d => some (@decide p d)
  | _ => none
theorem boolS_av {x : SV} {b : Bool} (h : boolS x = some b) : x.av = .p (.bool b) := by
  cases x <;> simp only [boolS, reduceCtorEq, Option.some.injEq] at h <;> subst h <;> rfl
def sarith (raw : Bool) (op : BinOp) (k : IntKind) (a b : Int) : Option (List Prop × SV) := match op with
  | .add => some (fitS raw k (a + b))
  | .sub => some (fitS raw k (a - b))
  | .mul => some (fitS raw k (a * b))
  | .quo => some ((b ≠ 0) :: (fitS raw k (a.tdiv b)).1, (fitS raw k (a.tdiv b)).2)
  | .rem => some ([b ≠ 0], .int k (a.tmod b))
  | .eql => some ([], .prop (a = b) inferInstance)
  | .neq => some ([], .prop (¬ a = b) inferInstance)
  | .lss => some ([], .prop (a < b) inferInstance)
  | .leq => some ([], .prop (a ≤ b) inferInstance)
  | .gtr => some ([], .prop (b < a) inferInstance)
  | .geq => some ([], .prop (b ≤ a) inferInstance)
  | _ => none
theorem sarith_av {raw : Bool} {op : BinOp} {k : IntKind} {a b : Int} {ps : List Prop} {r : SV} (h : sarith raw op k a b = some (ps, r)) (hp : ∀ p ∈ ps, p) {K : AV → Prop} (hK : K r.av) : arithA op k a b K := by
  unfold sarith at h
  split at h <;> simp only [Option.some.injEq, Prod.mk.injEq, reduceCtorEq] at h
  · have e := fitS_av (raw := raw) (k := k) (x := a + b) (by rw [h]; exact hp)
    rw [h] at e; unfold arithA; rw [← e]; exact hK
  · have e := fitS_av (raw := raw) (k := k) (x := a - b) (by rw [h]; exact hp)
    rw [h] at e; unfold arithA; rw [← e]; exact hK
  · have e := fitS_av (raw := raw) (k := k) (x := a * b) (by rw [h]; exact hp)
    rw [h] at e; unfold arithA; rw [← e]; exact hK
  · obtain ⟨rfl, rfl⟩ := h
    have e := fitS_av (raw := raw) (k := k) (x := a.tdiv b) (fun p h => hp p (List.mem_cons_of_mem _ h))
    exact ⟨hp _ List.mem_cons_self, by rw [← e]; exact hK⟩
  · obtain ⟨rfl, rfl⟩ := h
    exact ⟨hp _ List.mem_cons_self, hK⟩
  · obtain ⟨rfl, rfl⟩ := h; exact hK
  · obtain ⟨rfl, rfl⟩ := h
    show K (.p (.bool (a != b)))
    have : (a != b) = decide (¬ a = b) := by by_cases e : a = b <;> simp [e]
    rw [this]; exact hK
  · obtain ⟨rfl, rfl⟩ := h; exact hK
  · obtain ⟨rfl, rfl⟩ := h; exact hK
  · obtain ⟨rfl, rfl⟩ := h; exact hK
  · obtain ⟨rfl, rfl⟩ := h; exact hK
def intsS : List SV → Option (List Int)
  | [] => some []
  | .int .i64 a :: l => (match intsS l with | some m => some (a :: m) | none => none)
  | _ :: _ => none
theorem intsS_av : ∀ {l : List SV} {m : List Int}, intsS l = some m → avs l = (ints m).map .p
  | [], m, h => by simp only [intsS, Option.some.injEq] at h; subst h; rfl
  | x :: l, m, h => by
    unfold intsS at h
    split at h
    · rename_i e; cases e
    · rename_i a l' e
      cases e
      split at h <;> cases h
      rename_i m' hm
      rw [avs, intsS_av hm]; rfl
    · cases h
theorem intsOf_ints : ∀ m : List Int, intsOf (ints m) = some m
  | [] => rfl
  | x :: m => by
    have := intsOf_ints m
    unfold ints at *
    simp only [List.map_cons, intsOf, this, Option.map_some]
def eqP (xs ys : List Int) : SV := match xs, ys with
  | [a, b], [c, d] => .prop ((⟨a, b⟩ : Geo.V) = ⟨c, d⟩) inferInstance
  | [a, b, c, d], [e, f, g, h] => .prop ((⟨⟨a, b⟩, ⟨c, d⟩⟩ : Geo.S) = ⟨⟨e, f⟩, ⟨g, h⟩⟩) inferInstance
  | xs, ys => .prop (xs = ys) inferInstance
theorem eqP_av (xs ys : List Int) : (eqP xs ys).av = .p (.bool (xs == ys)) := by
  unfold eqP
  split
  · rename_i a b c d
    show AV.p (.bool (decide _)) = _
    congr 2
    rw [Bool.eq_iff_iff]
    simp only [decide_eq_true_eq, beq_iff_eq, Geo.V.mk.injEq, List.cons.injEq, and_true]
  · rename_i a b c d e f g h
    show AV.p (.bool (decide _)) = _
    congr 2
    rw [Bool.eq_iff_iff]
    simp only [decide_eq_true_eq, beq_iff_eq, Geo.V.mk.injEq, Geo.S.mk.injEq, List.cons.injEq, and_true, and_assoc]
  · show AV.p (.bool (decide _)) = _
    congr 2
    rw [Bool.eq_iff_iff]; simp only [decide_eq_true_eq, beq_iff_eq]
def notS : SV → Option SV
  | .prop p d => some (.prop (¬ p) (@instDecidableNot p d))
  | .bool b => some (.bool (!b))
  | .lit true => some (.lit false)
  | .lit false => some (.lit true)
  | _ => none
theorem notS_av {x r : SV} (h : notS x = some r) : ∃ b, x.av = .p (.bool b) ∧ r.av = .p (.bool (!b)) := by
  cases x <;> simp only [notS, reduceCtorEq, Option.some.injEq] at h
  · subst h; exact ⟨_, rfl, rfl⟩
  · rename_i b; cases b <;> simp only [Option.some.injEq] at h <;> subst h <;> exact ⟨_, rfl, rfl⟩
  · rename_i p d
    subst h
    refine ⟨_, rfl, ?_⟩
    show AV.p (.bool (decide _)) = _
    congr 2
    cases d <;> rfl
abbrev EqT := List (TypeId × Nat)
def EqT.Ok (P : Program) (q : EqT) : Prop := ∀ t m, (t, m) ∈ q → EqInts P t m
def EqT.has : EqT → TypeId → Nat → Bool
  | [], _, _ => false
  | (a, b) :: l, t, m => (Nat.beq a t && Nat.beq b m) || EqT.has l t m
theorem EqT.has_mem : ∀ {q : EqT} {t m : Nat}, q.has t m = true → (t, m) ∈ q
  | [], t, m, h => by cases h
  | (a, b) :: l, t, m, h => by
    simp only [EqT.has, Bool.or_eq_true, Bool.and_eq_true] at h
    rcases h with ⟨h1, h2⟩ | h
    · rw [Nat.eq_of_beq_eq_true h1, Nat.eq_of_beq_eq_true h2]; exact List.mem_cons_self
    · exact List.mem_cons_of_mem _ (EqT.has_mem h)
def sbin (P : Program) (q : EqT) (raw : Bool) (op : BinOp) (t : TypeId) (x y : SV) : Option (List Prop × SV) := match x, y with
  | .int k a, .int k' b => (match decEq k' k with | .isTrue _ => sarith raw op k a b | .isFalse _ => none)
  | .agg l, .agg m => (match intsS l, intsS m with
    | some xs, some ys => (match Nat.beq xs.length ys.length, q.has t xs.length, op with
      | true, true, .eql => some ([], eqP xs ys)
      | true, true, .neq => (match notS (eqP xs ys) with | some r => some ([], r) | none => none)
      | _, _, _ => none)
    | _, _ => none)
  | x, y => (match boolS x, boolS y, tbool P t, op with
    | some a, some b, true, .eql => some ([], .bool (a == b))
    | some a, some b, true, .neq => some ([], .bool (a != b))
    | _, _, _, _ => none)
theorem sbin_av {P : Program} {q : EqT} (hq : q.Ok P) {raw : Bool} {op : BinOp} {t : TypeId} {x y : SV} {ps : List Prop} {r : SV} (h : sbin P q raw op t x y = some (ps, r)) (hp : ∀ p ∈ ps, p) {K : AV → Prop} (hK : K r.av) : binA P op t x.av y.av K := by
  unfold sbin at h
  split at h
  · rename_i k a k' b
    split at h
    · rename_i e _; exact ⟨e, sarith_av h hp hK⟩
    · cases h
  · rename_i l m
    split at h
    · rename_i xs ys hx hy
      have key : ∀ (op : BinOp), (∃ xs' ys', intsOf (ints xs) = some xs' ∧ intsOf (ints ys) = some ys' ∧ xs'.length = ys'.length ∧ EqInts P t xs'.length ∧ (match op with | .eql => K (.p (.bool (xs' == ys'))) | .neq => K (.p (.bool (xs' != ys'))) | _ => False)) → binA P op t (SV.agg l).av (SV.agg m).av K := by
        intro op h
        show binA P op t (mkAgg (avs l)) (mkAgg (avs m)) K
        rw [intsS_av hx, intsS_av hy, mkAgg_mapp, mkAgg_mapp]
        exact h
      split at h
      · rename_i h1 h2
        cases h
        refine key _ ⟨xs, ys, intsOf_ints _, intsOf_ints _, Nat.eq_of_beq_eq_true h1, hq _ _ (EqT.has_mem h2), ?_⟩
        rw [eqP_av] at hK; exact hK
      · rename_i h1 h2
        split at h <;> cases h
        rename_i hr
        obtain ⟨b, e1, e2⟩ := notS_av hr
        rw [eqP_av] at e1
        cases e1
        refine key _ ⟨xs, ys, intsOf_ints _, intsOf_ints _, Nat.eq_of_beq_eq_true h1, hq _ _ (EqT.has_mem h2), ?_⟩
        rw [e2] at hK; exact hK
      · cases h
    · cases h
  · split at h
    · rename_i a b h1 h2 h3
      cases h
      rw [boolS_av h1, boolS_av h2]; exact ⟨h3, hK⟩
    · rename_i a b h1 h2 h3
      cases h
      rw [boolS_av h1, boolS_av h2]; exact ⟨h3, hK⟩
    · cases h
def sun (raw : Bool) (op : UnOp) (x : SV) : Option (List Prop × SV) := match op with
  | .not => (match notS x with | some r => some ([], r) | none => none)
  | .neg => (match x with | .int k a => some (fitS raw k (0 - a)) | _ => none)
  | _ => none
theorem sun_av {raw : Bool} {op : UnOp} {x : SV} {ps : List Prop} {r : SV} (h : sun raw op x = some (ps, r)) (hp : ∀ p ∈ ps, p) {K : AV → Prop} (hK : K r.av) : unA op x.av K := by
  unfold sun at h
  split at h
  · split at h <;> cases h
    rename_i hr
    obtain ⟨b, e1, e2⟩ := notS_av hr
    rw [e1]; rw [e2] at hK; exact hK
  · split at h
    · rename_i k a
      simp only [Option.some.injEq] at h
      have e := fitS_av (raw := raw) (k := k) (x := 0 - a) (by rw [h]; exact hp)
      rw [h] at e; show K _; rw [← e]; exact hK
    · cases h
  · cases h
def sconv (P : Program) (raw : Bool) (s d : TypeId) (x : SV) : Option (List Prop × SV) := match x with
  | .int _ a => (match (P.underlying s).isSome, tint P d with
    | true, some k => some (fitS raw k a)
    | _, _ => none)
  | _ => none
theorem sconv_av {P : Program} {raw : Bool} {s d : TypeId} {x : SV} {ps : List Prop} {r : SV} (h : sconv P raw s d x = some (ps, r)) (hp : ∀ p ∈ ps, p) {K : AV → Prop} (hK : K r.av) : convA P s d x.av K := by
  unfold sconv at h
  split at h
  · rename_i k0 a
    split at h
    · rename_i k h1 h2
      simp only [Option.some.injEq] at h
      have e := fitS_av (raw := raw) (k := k) (x := a) (by rw [h]; exact hp)
      rw [h] at e
      exact ⟨h1, k, h2, by rw [← e]; exact hK⟩
    · cases h
  · cases h
def intS : SV → Option Int
  | .int _ n => some n
  | _ => none
theorem intS_av {x : SV} {n : Int} (h : intS x = some n) : intA x.av = some n := by
  cases x <;> simp only [intS, reduceCtorEq, Option.some.injEq] at h
  subst h; rfl
def endS (E : SE) : Option Operand → Option (Option Int)
  | none => some none
  | some x => (match intS (E x) with | some n => some (some n) | none => none)
def lenS : SV → Int
  | .lst _ l => (l.length : Int)
  | .own _ _ n => n
  | .owns _ _ _ n => n
  | .ownx _ n => n
  | _ => 0
def sslice (P : Program) (t : TypeId) (x : SV) (lo hi : Option Int) : Option (List Prop × SV) := match telem P t with
  | some e => (match (P.info? e).isSome, Nat.beq (tsize P e) 0 with
    | true, false => (match x, lo, hi with
      | .lst lt l, lo, hi => (match Nat.beq (tsize P e) lt.w with
        | true => (match lo, hi with
          | none, none => some ([], .lst lt l)
          | some a, none => some ([0 ≤ a ∧ a ≤ (l.length : Int)], .lst lt (l.drop a.toNat))
          | none, some b => some ([0 ≤ b ∧ b ≤ (l.length : Int)], .lst lt (l.take b.toNat))
          | some a, some b => some ([0 ≤ a ∧ a ≤ b ∧ b ≤ (l.length : Int)], .lst lt ((l.take b.toNat).drop a.toNat)))
        | false => none)
      | .own s lt n, lo, hi => (match Nat.beq (tsize P e) lt.w with
        | true => (match lo, hi with
          | none, none => some ([], .own s lt n)
          | none, some b => some ([0 ≤ b ∧ b ≤ (n : Int)], .owns s lt 0 b.toNat)
          | some a, none => some ([0 ≤ a ∧ a ≤ (n : Int)], .owns s lt a.toNat (n - a.toNat))
          | some a, some b => some ([0 ≤ a ∧ a ≤ b ∧ b ≤ (n : Int)], .owns s lt a.toNat (b.toNat - a.toNat)))
        | false => none)
      | .owns s lt o n, lo, hi => (match Nat.beq (tsize P e) lt.w with
        | true => (match lo, hi with
          | none, none => some ([], .owns s lt o n)
          | none, some b => some ([0 ≤ b ∧ b ≤ (n : Int)], .owns s lt o b.toNat)
          | some a, none => some ([0 ≤ a ∧ a ≤ (n : Int)], .owns s lt (o + a.toNat) (n - a.toNat))
          | some a, some b => some ([0 ≤ a ∧ a ≤ b ∧ b ≤ (n : Int)], .owns s lt (o + a.toNat) (b.toNat - a.toNat)))
        | false => none)
      | .ownx s n, none, none => some ([], .ownx s n)
      | _, _, _ => none)
    | _, _ => none)
  | none => none
theorem sslice_av {P : Program} {t : TypeId} {x : SV} {lo hi : Option Int} {ps : List Prop} {r : SV} (h : sslice P t x lo hi = some (ps, r)) (hp : ∀ p ∈ ps, p) {K : AV → Prop} (hK : K r.av) :
    sliceA P t x.av (some (lo.getD 0)) (some (hi.getD (lenOfA x.av))) K := by
  unfold sslice at h
  split at h
  case h_2 => cases h
  rename_i e he
  split at h
  case h_2 => cases h
  rename_i h1 h2
  have h2' : tsize P e ≠ 0 := Nat.ne_of_beq_eq_false h2
  split at h
  · rename_i lt l
    split at h
    case h_2 => cases h
    rename_i hw
    have hw := Nat.eq_of_beq_eq_true hw
    have key : ∀ a b : Int, 0 ≤ a → a ≤ b → b ≤ l.length → K (.p (.sl ((l.take b.toNat).drop a.toNat).length (lt.enc ((l.take b.toNat).drop a.toNat)))) → sliceA P t (SV.lst lt l).av (some a) (some b) K := by
      intro a b ha hb hc hK
      refine ⟨e, a, b, he, h1, h2', rfl, rfl, ha, hb, hc, ?_⟩
      rw [hw, lt.wide.take, lt.wide.drop]
      have : ((l.take b.toNat).drop a.toNat).length = b.toNat - a.toNat := by simp only [List.length_drop, List.length_take]; omega
      rw [← this]; exact hK
    split at h <;> cases h
    · refine key 0 (l.length : Int) (by omega) (by omega) (by omega) ?_
      rw [Int.toNat_natCast, List.take_length]; exact hK
    · rename_i a
      have hb := hp _ (List.mem_singleton.2 rfl)
      refine key a (l.length : Int) hb.1 hb.2 (by omega) ?_
      rw [Int.toNat_natCast, List.take_length]; exact hK
    · rename_i b
      have hb := hp _ (List.mem_singleton.2 rfl)
      exact key 0 b (by omega) hb.1 hb.2 hK
    · rename_i a b
      have hb := hp _ (List.mem_singleton.2 rfl)
      exact key a b hb.1 hb.2.1 hb.2.2 hK
  · rename_i s lt n
    split at h
    case h_2 => cases h
    rename_i hw
    have hw := Nat.eq_of_beq_eq_true hw
    have key : ∀ a b : Int, 0 ≤ a → a ≤ b → b ≤ n → K (.own s (a.toNat * lt.w) (b.toNat - a.toNat)) → sliceA P t (SV.own s lt n).av (some a) (some b) K := by
      intro a b ha hb hc hK
      refine ⟨e, a, b, he, h1, h2', rfl, rfl, ha, hb, hc, ?_⟩
      rw [hw, Nat.zero_add]; exact hK
    split at h <;> cases h
    · refine key 0 (n : Int) (by omega) (by omega) (by omega) ?_
      simpa [SV.av] using hK
    · rename_i b
      have hb := hp _ (List.mem_singleton.2 rfl)
      refine key 0 b (by omega) hb.1 hb.2 ?_
      simpa [SV.av] using hK
    · rename_i a
      have hb := hp _ (List.mem_singleton.2 rfl)
      exact key a (n : Int) hb.1 hb.2 (by omega) (by simpa [SV.av] using hK)
    · rename_i a b
      have hb := hp _ (List.mem_singleton.2 rfl)
      exact key a b hb.1 hb.2.1 hb.2.2 hK
  · rename_i s lt o n
    split at h
    case h_2 => cases h
    rename_i hw
    have hw := Nat.eq_of_beq_eq_true hw
    have key : ∀ a b : Int, 0 ≤ a → a ≤ b → b ≤ n → K (.own s ((o + a.toNat) * lt.w) (b.toNat - a.toNat)) → sliceA P t (SV.owns s lt o n).av (some a) (some b) K := by
      intro a b ha hb hc hK
      refine ⟨e, a, b, he, h1, h2', rfl, rfl, ha, hb, hc, ?_⟩
      rw [hw, ← Nat.add_mul]; exact hK
    split at h <;> cases h
    · refine key 0 (n : Int) (by omega) (by omega) (by omega) ?_
      simpa [SV.av] using hK
    · rename_i b
      have hb := hp _ (List.mem_singleton.2 rfl)
      refine key 0 b (by omega) hb.1 hb.2 ?_
      simpa [SV.av] using hK
    · rename_i a
      have hb := hp _ (List.mem_singleton.2 rfl)
      exact key a (n : Int) hb.1 hb.2 (by omega) (by simpa [SV.av] using hK)
    · rename_i a b
      have hb := hp _ (List.mem_singleton.2 rfl)
      exact key a b hb.1 hb.2.1 hb.2.2 hK
  · rename_i s n
    cases h
    refine ⟨e, 0, (n : Int), he, h1, h2', rfl, rfl, Int.le_refl _, Int.natCast_nonneg _, Int.le_refl _, ?_⟩
    simpa [SV.av] using hK
  · cases h
def slen (P : Program) (t : TypeId) (x : SV) : Option SV := match x with
  | .lst _ l => (match (telem P t).isSome with | true => some (.int .i64 (l.length : Int)) | false => none)
  | .own _ _ n => (match (telem P t).isSome with | true => some (.int .i64 (n : Int)) | false => none)
  | .owns _ _ _ n => (match (telem P t).isSome with | true => some (.int .i64 (n : Int)) | false => none)
  | .ownx _ n => (match (telem P t).isSome with | true => some (.int .i64 (n : Int)) | false => none)
  | .sl n cs => (match (telem P t).isSome, allP (avs cs) with | true, some _ => some (.int .i64 (n : Int)) | _, _ => none)
  | .nil => (match (telem P t).isSome with | true => some (.int .i64 0) | false => none)
  | _ => none
theorem slen_av {P : Program} {t : TypeId} {x r : SV} (h : slen P t x = some r) {K : AV → Prop} (hK : K r.av) : lenA P t x.av K := by
  unfold slen at h
  split at h
  · split at h <;> cases h; rename_i h1; exact ⟨h1, hK⟩
  · split at h <;> cases h; rename_i h1; exact ⟨h1, hK⟩
  · split at h <;> cases h; rename_i h1; exact ⟨h1, hK⟩
  · split at h <;> cases h; rename_i h1; exact ⟨h1, hK⟩
  · rename_i n cs
    split at h <;> cases h
    rename_i q h1 h2
    simp only [SV.av, h2]
    exact ⟨h1, hK⟩
  · split at h <;> cases h; rename_i h1; exact ⟨h1, hK⟩
  · cases h
def headS (σ : Sg) (e : TypeId) (lt : LT) (x : SV) : Option (List Prop × List lt.ty × List Nat) := match x with
  | .nil => some ([], [], [])
  | .own s _ k => (match σ s with
    | some (.row ty lt' l) => (match decEq lt' lt, Nat.beq ty e with
      | .isTrue h, true => some ([k = l.length], h ▸ l, [s])
      | _, _ => none)
    | _ => none)
  | .ownx s k => (match σ s with
    | some (.arr ty ez cs) => (match Nat.beq ty e, Nat.beq ez lt.w, lt.decs k cs with
      | true, true, some l => some ([], l, [s])
      | _, _, _ => none)
    | _ => none)
  | _ => none
def tailS (σ : Sg) (lt : LT) (x : SV) : Option (List Prop × List lt.ty × List Nat) := match x with
  | .nil => some ([], [], [])
  | .lst lt' l => (match decEq lt' lt with
    | .isTrue h => some ([], h ▸ l, [])
    | .isFalse _ => none)
  | .own s _ k => (match σ s with
    | some (.row _ lt' l) => (match decEq lt' lt with
      | .isTrue h => some ([k = l.length], h ▸ l, [s])
      | .isFalse _ => none)
    | _ => none)
  | .owns s lt2 o k => (match σ s with
    | some (.row _ lt' l) => (match decEq lt' lt, decEq lt2 lt with
      | .isTrue h, .isTrue _ => some ([o + k ≤ l.length], (h ▸ l : List lt.ty).drop o |>.take k, [s])
      | _, _ => none)
    | _ => none)
  | .ownx s k => (match σ s with
    | some (.arr _ ez cs) => (match Nat.beq ez lt.w, lt.decs k cs with
      | true, some l => some ([], l, [s])
      | _, _ => none)
    | _ => none)
  | _ => none
def sapp (P : Program) (ltOf : TypeId → Option LT) (n : Nat) (t t' : TypeId) (σ : Sg) (x y : SV) : SR := match telem P t, (telem P t').isSome with
  | some e, true => (match ltOf e, tapp P e with
    | some lt, true => (match Nat.beq (tsize P e) lt.w, headS σ e lt x, tailS σ lt y with
      | true, some (p1, l, r1), some (p2, m, r2) => some (p1 ++ p2 ++ [l.length + m.length ≤ 1000000], .own n lt (l ++ m).length, r1 ++ r2, r1.map (·, none) ++ [(n, some (.row e lt (l ++ m)))])
      | _, _, _ => none)
    | _, _ => none)
  | _, _ => none
theorem headS_av {σ : Sg} {e : TypeId} {lt : LT} {x : SV} {ps : List Prop} {l : List lt.ty} {r : List Nat} (h : headS σ e lt x = some (ps, l, r)) (hp : ∀ p ∈ ps, p) {K : Nat → List AV → List Nat → Prop} (hK : K l.length ((lt.enc l).map .p) r) : headA σ.a e lt.w x.av K := by
  unfold headS at h
  split at h
  · cases h; exact hK
  · rename_i s _ k
    split at h
    · rename_i ty lt' l' hs
      split at h
      · rename_i he _ hty
        subst he
        cases h
        have hk : k = l'.length := hp _ (List.mem_singleton.2 rfl)
        refine ⟨_, by unfold Sg.a; rw [hs]; rfl, Nat.eq_of_beq_eq_true hty, rfl, ?_, by rw [hk]; exact hK⟩
        show ((lt'.enc l').map AV.p).length = _
        rw [List.length_map, lt'.wide.length, hk]
      · cases h
    · cases h
  · rename_i s k
    split at h
    · rename_i ty ez cs hs
      split at h <;> cases h
      rename_i h1 h2 h3
      obtain ⟨e1, e2⟩ := LT.decs_av h3
      have h2 := Nat.eq_of_beq_eq_true h2
      refine ⟨_, by unfold Sg.a; rw [hs]; rfl, Nat.eq_of_beq_eq_true h1, h2, ?_, ?_⟩
      · show (avs cs).length = _
        rw [e2, List.length_map, lt.wide.length, e1]
      · show K k (avs cs) [s]
        rw [e2, ← e1]; exact hK
    · cases h
  · cases h
theorem tailS_av {σ : Sg} {lt : LT} {x : SV} {ps : List Prop} {l : List lt.ty} {r : List Nat} (h : tailS σ lt x = some (ps, l, r)) (hp : ∀ p ∈ ps, p) {K : Nat → List AV → List Nat → Prop} (hK : K l.length ((lt.enc l).map .p) r) : tailA σ.a lt.w x.av K := by
  unfold tailS at h
  split at h
  · cases h; exact hK
  · rename_i lt' l'
    split at h
    · rename_i he _
      subst he
      cases h
      exact ⟨lt'.wide.length _, hK⟩
    · cases h
  · rename_i s _ k
    split at h
    · rename_i ty lt' l' hs
      split at h
      · rename_i he _
        subst he
        cases h
        have hk : k = l'.length := hp _ (List.mem_singleton.2 rfl)
        refine ⟨_, (lt'.enc l').map .p, by unfold Sg.a; rw [hs]; rfl, ?_, ?_, by rw [hk]; exact hK⟩
        · show (((lt'.enc l').map AV.p).drop 0).take (k * lt'.w) = _
          rw [List.drop_zero, List.take_of_length_le (by rw [List.length_map, lt'.wide.length, hk]; exact Nat.le_refl _)]
        · rw [List.length_map, lt'.wide.length, hk]
      · cases h
    · cases h
  · rename_i s lt2 o k
    split at h
    · rename_i ty lt' l' hs
      split at h
      · rename_i he he2 _ _
        subst he
        subst he2
        cases h
        have hk : o + k ≤ l'.length := hp _ (List.mem_singleton.2 rfl)
        have hlen : ((l'.drop o).take k).length = k := by simp; omega
        refine ⟨_, (lt2.enc ((l'.drop o).take k)).map .p, by unfold Sg.a; rw [hs]; rfl, ?_, ?_, by rw [hlen] at hK; exact hK⟩
        · show (((lt2.enc l').map AV.p).drop (o * lt2.w)).take (k * lt2.w) = _
          rw [← List.map_drop, ← List.map_take, lt2.wide.drop, lt2.wide.take]
        · rw [List.length_map, lt2.wide.length, hlen]
      · cases h
    · cases h
  · rename_i s k
    split at h
    · rename_i ty ez cs hs
      split at h <;> cases h
      rename_i h1 h3
      obtain ⟨e1, e2⟩ := LT.decs_av h3
      have hl : (avs cs).length = k * lt.w := by rw [e2, List.length_map, lt.wide.length, e1]
      refine ⟨_, avs cs, by unfold Sg.a; rw [hs]; rfl, ?_, hl, by rw [e2, ← e1]; exact hK⟩
      show ((avs cs).drop 0).take (k * lt.w) = _
      rw [List.drop_zero, List.take_of_length_le (by rw [hl]; exact Nat.le_refl _)]
    · cases h
  · cases h
theorem sto_append (A B : SSto) : SSto.sto (A ++ B) = A.sto ++ B.sto := List.map_append
theorem sto_none (r : List Nat) : SSto.sto (r.map (·, none)) = r.map (·, none) := by
  unfold SSto.sto
  rw [List.map_map]; rfl
theorem sapp_av {P : Program} {ltOf : TypeId → Option LT} {n : Nat} {t t' : TypeId} {σ : Sg} {x y : SV} {ps : List Prop} {r : SV} {rd : List Nat} {W : SSto} (h : sapp P ltOf n t t' σ x y = some (ps, r, rd, W)) (hp : ∀ p ∈ ps, p) :
    (telem P t').isSome = true ∧ appA P n t σ.a x.av y.av fun r' R' W' => r' = r.av ∧ R' = rd ∧ W' = W.sto := by
  unfold sapp at h
  split at h
  case h_2 => cases h
  rename_i e he ht'
  split at h
  case h_2 => cases h
  rename_i lt hlt htapp
  split at h
  case h_2 => cases h
  rename_i p1 l r1 p2 m r2 hw h1 h2
  cases h
  refine ⟨ht', e, he, htapp, ?_⟩
  rw [Nat.eq_of_beq_eq_true hw]
  refine headS_av h1 (fun p hpp => hp p (by simp [hpp])) (tailS_av h2 (fun p hpp => hp p (by simp [hpp])) ⟨hp _ (by simp), ?_, rfl, ?_⟩)
  · show _ = AV.own n 0 _
    rw [List.length_append]
  · rw [sto_append, sto_none]
    show _ = _ ++ [(n, some (⟨e, lt.w, (lt.enc (l ++ m)).map AV.p⟩ : Ob))]
    rw [lt.wide.append, List.map_append]
def smm (f : Int → Int → Int) (x y : SV) : Option SV := match x, y with
  | .int .i64 a, .int .i64 b => some (.int .i64 (f a b))
  | _, _ => none
theorem smm_av {f : Int → Int → Int} {x y r : SV} (h : smm f x y = some r) {K : AV → Prop} (hK : K r.av) : mmA f x.av y.av K := by
  unfold smm at h
  split at h <;> cases h
  exact hK
end Go.Proofs.YtdaeofhdgabhjaaGreat
namespace Go.Proofs.YtdaeofhdgabhjaaGreat
open Go.RowKit
def mapS (f : SV → Option (List Prop × SV)) : List SV → Option (List Prop × List SV)
  | [] => some ([], [])
  | x :: l => match f x, mapS f l with
    | some (p, y), some (q, m) => some (p ++ q, y :: m)
    | _, _ => none
def snapS : Nat → Sg → SV → Option (List Prop × SV)
  | _, _, .nil => some ([], .sl 0 [])
  | _ + 1, σ, .own s _ n => (match σ s with
    | some (.row _ lt l) => some ([n = l.length], .lst lt l)
    | _ => none)
  | _ + 1, σ, .owns s lt2 o n => (match σ s with
    | some (.row _ lt l) => (match Nat.beq lt2.w lt.w with | true => some ([o + n ≤ l.length], .lst lt ((l.drop o).take n)) | false => none)
    | _ => none)
  | d + 1, σ, .ownx s n => (match σ s with
    | some (.arr _ ez cs) => (match Nat.beq cs.length (n * ez), mapS (snapS d σ) cs with | true, some (ps, m) => some (ps, .sl n m) | _, _ => none)
    | _ => none)
  | d + 1, σ, .ptr s off => (match σ s with
    | some (.box _ cs) => (match mapS (snapS d σ) cs with | some (ps, m) => some (ps, .pro m off) | none => none)
    | _ => none)
  | d + 1, σ, .agg l => (match mapS (snapS d σ) l with | some (ps, m) => some (ps, .agg m) | none => none)
  | d + 1, σ, .fn f a b => (match mapS (snapS d σ) a, mapS (snapS d σ) b with | some (p, x), some (q, y) => some (p ++ q, .fnp f x y) | _, _ => none)
  | _, _, x => (match x.av with | .p _ => some ([], x) | _ => none)
theorem mapS_av {d : Nat} {σ : Sg} {f : SV → Option (List Prop × SV)} (hf : ∀ x ps y, f x = some (ps, y) → (∀ p ∈ ps, p) → ∃ q, snap d σ.a x.av = some q ∧ y.av = .p q) :
    ∀ {l : List SV} {ps : List Prop} {m : List SV}, mapS f l = some (ps, m) → (∀ p ∈ ps, p) → ∃ q, optM (snap d σ.a) (avs l) = some q ∧ avs m = q.map .p
  | [], ps, m, h, _ => by simp only [mapS, Option.some.injEq, Prod.mk.injEq] at h; obtain ⟨rfl, rfl⟩ := h; exact ⟨[], rfl, rfl⟩
  | x :: l, ps, m, h, hp => by
    unfold mapS at h
    split at h
    · rename_i p y q m' h1 h2
      cases h
      obtain ⟨u, e1, e2⟩ := hf x p y h1 (fun r hr => hp r (List.mem_append_left _ hr))
      obtain ⟨v, e3, e4⟩ := mapS_av hf h2 (fun r hr => hp r (List.mem_append_right _ hr))
      refine ⟨u :: v, ?_, by rw [avs, e2, e4]; rfl⟩
      rw [avs, optM, e1, e3]
    · cases h
theorem snap_plain {d : Nat} {σ : Sg} {x : SV} {ps : List Prop} {y : SV} (h : (match x.av with | .p _ => some (([] : List Prop), x) | _ => none) = some (ps, y)) : ∃ q, snap d σ.a x.av = some q ∧ y.av = .p q := by
  split at h <;> cases h
  rename_i q hq
  exact ⟨q, by rw [hq, snap_p], hq⟩
theorem snapS_av {σ : Sg} : ∀ {d : Nat} {x : SV} {ps : List Prop} {y : SV}, snapS d σ x = some (ps, y) → (∀ p ∈ ps, p) → ∃ q, snap d σ.a x.av = some q ∧ y.av = .p q := by
  intro d
  induction d with
  | zero =>
    intro x ps y h hp
    cases x <;> first
      | (change some ([], SV.sl 0 []) = some (ps, y) at h; cases h; exact ⟨.sl 0 [], rfl, rfl⟩)
      | exact snap_plain h
  | succ d ih =>
    intro x ps y h hp
    have ihl := @mapS_av d σ (snapS d σ) (fun x ps y => ih)
    cases x with
    | nil => change some ([], SV.sl 0 []) = some (ps, y) at h; cases h; exact ⟨.sl 0 [], rfl, rfl⟩
    | own s t n =>
      change (match σ s with | some (.row _ lt l) => some ([n = l.length], SV.lst lt l) | _ => none) = _ at h
      split at h <;> cases h
      rename_i ty lt l hs
      have hn : n = l.length := hp _ (List.mem_singleton.2 rfl)
      refine ⟨_, ?_, rfl⟩
      show snap (d + 1) (Sg.a σ) (.own s 0 n) = _
      unfold snap
      have : Sg.a σ s = some ⟨ty, lt.w, (lt.enc l).map .p⟩ := by unfold Sg.a; rw [hs]; rfl
      rw [this]
      simp only [Option.bind_some, optM_p, Option.map_some, List.drop_zero]
      rw [List.take_of_length_le (by rw [lt.wide.length, hn]; exact Nat.le_refl _), hn]
    | owns s lt2 o n =>
      change (match σ s with | some (.row _ lt l) => (match Nat.beq lt2.w lt.w with | true => some ([o + n ≤ l.length], SV.lst lt ((l.drop o).take n)) | false => none) | _ => none) = _ at h
      split at h
      case h_2 => cases h
      rename_i ty lt l hs
      split at h <;> cases h
      rename_i hw
      have hw := Nat.eq_of_beq_eq_true hw
      have hn : o + n ≤ l.length := hp _ (List.mem_singleton.2 rfl)
      refine ⟨_, ?_, rfl⟩
      show snap (d + 1) (Sg.a σ) (.own s (o * lt2.w) n) = _
      unfold snap
      have : Sg.a σ s = some ⟨ty, lt.w, (lt.enc l).map .p⟩ := by unfold Sg.a; rw [hs]; rfl
      rw [this]
      simp only [Option.bind_some, optM_p, Option.map_some]
      rw [hw, lt.wide.drop, lt.wide.take]
      congr 2
      simp; omega
    | ownx s n =>
      change (match σ s with | some (.arr _ ez cs) => (match Nat.beq cs.length (n * ez), mapS (snapS d σ) cs with | true, some (ps, m) => some (ps, SV.sl n m) | _, _ => none) | _ => none) = _ at h
      split at h
      case h_2 => cases h
      rename_i ty ez cs hs
      split at h <;> cases h
      rename_i m hl hm
      obtain ⟨q, e1, e2⟩ := ihl hm hp
      refine ⟨.sl n q, ?_, by show (match allP (avs m) with | some q => AV.p (.sl n q) | none => .any) = _; rw [e2, allP_mapp]⟩
      show snap (d + 1) (Sg.a σ) (.own s 0 n) = _
      unfold snap
      have : Sg.a σ s = some ⟨ty, ez, avs cs⟩ := by unfold Sg.a; rw [hs]; rfl
      rw [this]
      simp only [Option.bind_some, e1, Option.map_some, List.drop_zero]
      rw [List.take_of_length_le (by rw [← (optM_get e1).1, avs_length, Nat.eq_of_beq_eq_true hl]; exact Nat.le_refl _)]
    | ptr s off =>
      change (match σ s with | some (.box _ cs) => (match mapS (snapS d σ) cs with | some (ps, m) => some (ps, SV.pro m off) | none => none) | _ => none) = _ at h
      split at h
      case h_2 => cases h
      rename_i ty cs hs
      split at h <;> cases h
      rename_i m hm
      obtain ⟨q, e1, e2⟩ := ihl hm hp
      refine ⟨.pro q off, ?_, by show (match allP (avs m) with | some q => AV.p (.pro q off) | none => .any) = _; rw [e2, allP_mapp]⟩
      show snap (d + 1) (Sg.a σ) (.ptr s off) = _
      unfold snap
      have : Sg.a σ s = some ⟨ty, 0, avs cs⟩ := by unfold Sg.a; rw [hs]; rfl
      rw [this]
      simp only [Option.bind_some, e1, Option.map_some]
    | agg l =>
      change (match mapS (snapS d σ) l with | some (ps, m) => some (ps, SV.agg m) | none => none) = _ at h
      split at h <;> cases h
      rename_i m hm
      obtain ⟨q, e1, e2⟩ := ihl hm hp
      refine ⟨.agg q, ?_, by show mkAgg (avs m) = _; rw [e2, mkAgg_mapp]⟩
      show snap (d + 1) (Sg.a σ) (mkAgg (avs l)) = _
      unfold mkAgg
      cases hq : allP (avs l) with
      | some q' =>
        rw [allP_map hq, optM_p] at e1
        cases e1
        exact snap_p _ _ _
      | none => dsimp only; unfold snap; rw [e1]; rfl
    | fn f a b =>
      change (match mapS (snapS d σ) a, mapS (snapS d σ) b with | some (p, x), some (q, y) => some (p ++ q, SV.fnp f x y) | _, _ => none) = _ at h
      split at h <;> cases h
      rename_i p x q y h1 h2
      obtain ⟨u, e1, e2⟩ := ihl h1 (fun r hr => hp r (List.mem_append_left _ hr))
      obtain ⟨v, e3, e4⟩ := ihl h2 (fun r hr => hp r (List.mem_append_right _ hr))
      refine ⟨.fn (.func f) u v, ?_, by show (match allP (avs x), allP (avs y) with | some x, some y => AV.p (.fn (.func f) x y) | _, _ => .any) = _; rw [e2, e4, allP_mapp, allP_mapp]⟩
      show snap (d + 1) (Sg.a σ) (.fn (.func f) (avs a) (avs b)) = _
      unfold snap
      rw [e1, e3]; rfl
    | _ => exact snap_plain h
def refsS : Nat → Sg → SV → List Nat
  | 0, _, _ => []
  | d + 1, σ, .own s _ _ => s :: (match σ s with | some (.box _ cs) => flatM (refsS d σ) cs | some (.arr _ _ cs) => flatM (refsS d σ) cs | _ => [])
  | d + 1, σ, .owns s _ _ _ => s :: (match σ s with | some (.box _ cs) => flatM (refsS d σ) cs | some (.arr _ _ cs) => flatM (refsS d σ) cs | _ => [])
  | d + 1, σ, .ownx s _ => s :: (match σ s with | some (.box _ cs) => flatM (refsS d σ) cs | some (.arr _ _ cs) => flatM (refsS d σ) cs | _ => [])
  | d + 1, σ, .ptr s _ => s :: (match σ s with | some (.box _ cs) => flatM (refsS d σ) cs | some (.arr _ _ cs) => flatM (refsS d σ) cs | _ => [])
  | d + 1, σ, .pte s _ _ _ => s :: (match σ s with | some (.box _ cs) => flatM (refsS d σ) cs | some (.arr _ _ cs) => flatM (refsS d σ) cs | _ => [])
  | d + 1, σ, .agg l => flatM (refsS d σ) l
  | d + 1, σ, .fn _ a b => flatM (refsS d σ) a ++ flatM (refsS d σ) b
  | _ + 1, _, _ => []
theorem flatM_av {d : Nat} {σ : Sg} (ih : ∀ x : SV, refs d σ.a x.av = refsS d σ x) : ∀ l : List SV, flatM (refs d σ.a) (avs l) = flatM (refsS d σ) l
  | [] => rfl
  | x :: l => by rw [avs, flatM, flatM, ih, flatM_av ih l]
theorem refsS_av {σ : Sg} : ∀ (d : Nat) (x : SV), refs d σ.a x.av = refsS d σ x := by
  intro d
  induction d with
  | zero => intro x; rfl
  | succ d ih =>
    intro x
    have obs : ∀ s : Nat, (match σ.a s with | some ob => flatM (refs d σ.a) ob.cells | none => []) = (match σ s with | some (.box _ cs) => flatM (refsS d σ) cs | some (.arr _ _ cs) => flatM (refsS d σ) cs | _ => []) := by
      intro s
      unfold Sg.a
      cases σ s with
      | none => rfl
      | some ob =>
        cases ob with
        | box ty cs => exact flatM_av ih cs
        | row ty lt l => exact flatM_p _ _ _
        | arr ty ez cs => exact flatM_av ih cs
    have plain : ∀ (y : AV), (∃ q, y = .p q) ∨ y = .any ∨ (∃ l, y = .tup l) → refs (d + 1) σ.a y = [] := by
      rintro y (⟨q, rfl⟩ | rfl | ⟨l, rfl⟩) <;> rfl
    cases x with
    | own s t n => exact congrArg (s :: ·) (obs s)
    | owns s t o n => exact congrArg (s :: ·) (obs s)
    | ownx s n => exact congrArg (s :: ·) (obs s)
    | ptr s off => exact congrArg (s :: ·) (obs s)
    | pte s t i off => exact congrArg (s :: ·) (obs s)
    | agg l =>
      show refs (d + 1) σ.a (mkAgg (avs l)) = flatM (refsS d σ) l
      rw [← flatM_av ih]
      unfold mkAgg
      cases hq : allP (avs l) with
      | none => rfl
      | some q => rw [allP_map hq, flatM_p]; rfl
    | fn f a b =>
      show flatM (refs d σ.a) (avs a) ++ flatM (refs d σ.a) (avs b) = _
      rw [flatM_av ih, flatM_av ih]; rfl
    | tup l =>
      refine plain _ ?_
      show (∃ q, mkTup (avs l) = .p q) ∨ mkTup (avs l) = .any ∨ ∃ m, mkTup (avs l) = .tup m
      unfold mkTup
      split
      · exact .inl ⟨_, rfl⟩
      · exact .inr (.inr ⟨_, rfl⟩)
    | sl n cs =>
      refine plain _ ?_
      simp only [SV.av]
      split
      · exact .inl ⟨_, rfl⟩
      · exact .inr (.inl rfl)
    | pro cs off =>
      refine plain _ ?_
      simp only [SV.av]
      split
      · exact .inl ⟨_, rfl⟩
      · exact .inr (.inl rfl)
    | fnp f a b =>
      refine plain _ ?_
      simp only [SV.av]
      split
      · exact .inl ⟨_, rfl⟩
      · exact .inr (.inl rfl)
    | _ => rfl
inductive RK (X : Type) where
  | val (fr : Bool) (res : X → SV)
  | own (ty : TypeId) (t : LT) (l : X → List t.ty) (ys : X → List SV)
  | ownN (ty : TypeId) (t : LT) (l : X → List t.ty)
  | mutR (t : LT) (ty : TypeId) (l' : X → List t.ty)
  | mutB (ty : TypeId) (cells' : X → List SV)
structure Con where
  X : Type
  dec : List SV → Option X
  pre : X → List Prop
  rk : RK X
def ConOk (P : Program) (f : Nat) {X : Type} (dec : List SV → Option X) (pre : X → List Prop) : RK X → Prop
  | .val fr res => ∀ xs x, dec xs = some x → (∀ p ∈ pre x, p) → ∃ A r, avs xs = A.map .p ∧ (res x).av = .p r ∧ Sat P fr f A r
  | .own ty t l ys => ∀ xs x, dec xs = some x → (∀ p ∈ pre x, p) → ∃ A Y, avs xs = A.map .p ∧ avs (ys x) = Y.map .p ∧ SatO P f A ty t.w (t.enc (l x)) (l x).length Y
  | .ownN ty t l => ∀ xs x, dec xs = some x → (∀ p ∈ pre x, p) → ∃ A, avs xs = .nil :: A.map .p ∧ SatN P f A ty t.w (t.enc (l x)) (l x).length []
  | .mutR t ty l' => ∀ l rest x, dec (.lst t l :: rest) = some x → (∀ p ∈ pre x, p) → ∃ A, avs rest = A.map .p ∧ SatM P f (some l.length) A ty t.w (t.enc l) (t.enc (l' x))
  | .mutB ty cells' => ∀ cs rest x, dec (.agg cs :: rest) = some x → (∀ p ∈ pre x, p) → ∃ A q q', avs rest = A.map .p ∧ avs cs = q.map .p ∧ avs (cells' x) = q'.map .p ∧ SatM P f none A ty 0 q q'
def Con.Ok (P : Program) (f : Nat) (c : Con) : Prop := ConOk P f c.dec c.pre c.rk
abbrev Tab := Nat → Option Con
def Tab.Ok (P : Program) (T : Tab) : Prop := ∀ f c, T f = some c → c.Ok P f
def LT.argP : (t : LT) → t.ty → PV
  | .V => fun v => .agg [.int .i64 v.x, .int .i64 v.y]
  | .S => fun s => .agg [.int .i64 s.a.x, .int .i64 s.a.y, .int .i64 s.b.x, .int .i64 s.b.y]
  | .R => fun r => .sl r.length (encV r)
  | .I => fun n => .int .i64 n
  | .B => fun b => .bool b
  | .P => fun p => .agg [.int .i64 p.1, .int .i64 p.2]
def LT.one : LT → Bool
  | .V => false
  | .S => false
  | .P => false
  | _ => true
def argS (t : LT) (v : SV) : Option t.ty := match t.one with
  | true => t.dec [v]
  | false => (match v with | .agg l => t.dec l | _ => none)
theorem argS_av {t : LT} {v : SV} {x : t.ty} (h : argS t v = some x) : v.av = .p (t.argP x) := by
  have agg : ∀ l : List SV, v = .agg l → t.dec l = some x → v.av = .p (.agg (t.rowP x)) := by
    intro l e hd
    subst e
    show mkAgg (avs l) = _
    rw [LT.dec_av hd, mkAgg_mapp]
  have one : t.dec [v] = some x → ∀ c, t.rowP x = [c] → v.av = .p c := by
    intro hd c hc
    have := LT.dec_av hd
    rw [hc] at this
    simp only [avs, List.map_cons, List.map_nil, List.cons.injEq, and_true] at this
    exact this
  unfold argS at h
  cases t <;> simp only [LT.one] at h <;> first
    | exact one h _ rfl
    | (split at h
       · exact agg _ rfl h
       · cases h)
def Clo1Ok (P : Program) (pv : PV) (t : LT) (q : t.ty → Bool) (dom : t.ty → Prop) : Prop := ∃ f first caps, pv = .fn (.func f) first caps ∧ ∀ x, dom x → ∃ fr, Sat P fr f (first ++ [t.argP x] ++ caps) (.bool (q x))
def Clo2Ok (P : Program) (pv : PV) (t : LT) (q : t.ty → t.ty → Int) (dom : t.ty → t.ty → Prop) : Prop := ∃ f first caps, pv = .fn (.func f) first caps ∧ ∀ x y, dom x y → ∃ fr, Sat P fr f (first ++ [t.argP x, t.argP y] ++ caps) (.int .i64 (q x y))
def flatS (x : SV) : Bool := match x.av with
  | .p r => r.flat
  | _ => false
def scall (T : Tab) (n : Nat) (σ : Sg) (f : Nat) (xs : List SV) : SR := match T f with
  | none => none
  | some ⟨_, dec, pre, rk⟩ => (match rk with
    | .val fr res => (match mapS (snapS 3 σ) xs with
      | some (ps, bs) => (match dec bs with
        | some x => (match (res x).ape, allP (avs xs) with
          | false, some _ => some (ps ++ pre x, res x, [], [])
          | false, none => (match fr, flatS (res x) with
            | false, false => some (ps ++ pre x, res x, flatM (refsS 3 σ) xs, (flatM (refsS 3 σ) xs).map (·, none))
            | _, _ => some (ps ++ pre x, res x, flatM (refsS 3 σ) xs, []))
          | _, _ => none)
        | none => none)
      | none => none)
    | .own ty t l ys => (match allP (avs xs), dec xs with
      | some _, some x => (match ys x with
        | [] => some (pre x, .own n t (l x).length, [], [(n, some (.row ty t (l x)))])
        | y :: r => (match Nat.beq (y :: r).length 0 with | _ => some (pre x, .tup (.own n t (l x).length :: y :: r), [], [(n, some (.row ty t (l x)))])))
      | _, _ => none)
    | .ownN ty t l => (match xs with
      | .nil :: rest => (match allP (avs rest), dec (.nil :: rest) with
        | some _, some x => some (pre x, .own n t (l x).length, [], [(n, some (.row ty t (l x)))])
        | _, _ => none)
      | _ => none)
    | .mutR t ty l' => (match xs with
      | .own s _ m :: rest => (match σ s, allP (avs rest) with
        | some (.row ty' t' l), some _ => (match decEq t' t, Nat.beq ty' ty with
          | .isTrue h, true => (match dec (.lst t (h ▸ l) :: rest) with
            | some x => some ((m = l.length) :: pre x, .undef, [s], [(s, some (.row ty t (l' x)))])
            | none => none)
          | _, _ => none)
        | _, _ => none)
      | _ => none)
    | .mutB ty cells' => (match xs with
      | .ptr s 0 :: rest => (match σ s, allP (avs rest) with
        | some (.box ty' cs), some _ => (match Nat.beq ty' ty, dec (.agg cs :: rest) with
          | true, some x => some (pre x, .undef, [s], [(s, some (.box ty (cells' x)))])
          | _, _ => none)
        | _, _ => none)
      | _ => none))
theorem scall_ok {P : Program} {T : Tab} (hT : T.Ok P) {n : Nat} {σ : Sg} {f : Nat} {xs : List SV} {ps : List Prop} {r : SV} {rd : List Nat} {W : SSto} (h : scall T n σ f xs = some (ps, r, rd, W)) (hp : ∀ p ∈ ps, p) :
    (goCall P σ.a f (avs xs) (fun r' R' W' => r' = r.av ∧ R' = rd ∧ W' = W.sto) ∨ goCallO P n f (avs xs) (fun r' R' W' => r' = r.av ∧ R' = rd ∧ W' = W.sto)) ∧ r.ok := by
  unfold scall at h
  split at h
  · cases h
  rename_i X dec pre rk hTf
  have hc := hT f _ hTf
  unfold Con.Ok at hc
  dsimp only at hc
  split at h
  · rename_i fr res
    split at h
    case h_2 => cases h
    rename_i qs bs hb
    split at h
    case h_2 => cases h
    rename_i x hx
    have fin : (∀ p ∈ qs ++ pre x, p) → ∃ A r, optM (snap 3 σ.a) (avs xs) = some A ∧ (res x).av = .p r ∧ Sat P fr f A r := by
      intro hp
      obtain ⟨A, r, h1, h2, h3⟩ := hc bs x hx (fun p h => hp p (List.mem_append_right _ h))
      obtain ⟨q, h4, h5⟩ := mapS_av (fun x ps y => snapS_av) hb (fun p h => hp p (List.mem_append_left _ h))
      rw [h1] at h5
      have : A = q := by
        have := congrArg allP h5
        rw [allP_mapp, allP_mapp] at this
        cases this; rfl
      subst this
      exact ⟨A, r, h4, h2, h3⟩
    have hR : flatM (refs 3 σ.a) (avs xs) = flatM (refsS 3 σ) xs := flatM_av (refsS_av 3) xs
    split at h
    · rename_i A' hape hA'
      cases h
      obtain ⟨A, r, h1, h2, h3⟩ := fin hp
      refine ⟨.inl ?_, SV.ok_of hape⟩
      rw [h2]
      rw [allP_map hA', optM_p] at h1
      cases h1
      exact goCall_pure h3 hA' ⟨rfl, rfl, rfl⟩
    · rename_i hape hA'
      cases hfr : fr with
      | true =>
        rw [hfr] at h
        cases h
        obtain ⟨A, r, h1, h2, h3⟩ := fin hp
        refine ⟨.inl ?_, SV.ok_of hape⟩
        rw [h2]
        rw [hfr] at h3
        exact goCall_fresh h3 h1 hR ⟨rfl, rfl, rfl⟩
      | false =>
        cases hfl : flatS (res x) with
        | true =>
          rw [hfr, hfl] at h
          cases h
          obtain ⟨A, r, h1, h2, h3⟩ := fin hp
          refine ⟨.inl ?_, SV.ok_of hape⟩
          unfold flatS at hfl
          rw [h2] at hfl ⊢
          exact goCall_fresh (h3.fresh hfl) h1 hR ⟨rfl, rfl, rfl⟩
        | false =>
          rw [hfr, hfl] at h
          cases h
          obtain ⟨A, r, h1, h2, h3⟩ := fin hp
          refine ⟨.inl ?_, SV.ok_of hape⟩
          rw [h2]
          exact goCall_drop h3 h1 hR ⟨rfl, rfl, (sto_none _).symm⟩
    · cases h
  · rename_i ty t l ys
    split at h
    case h_2 => cases h
    rename_i A' x hA' hx
    have fin : (∀ p ∈ pre x, p) → ∃ Y, avs (ys x) = Y.map .p ∧ SatO P f A' ty t.w (t.enc (l x)) (l x).length Y := by
      intro hp
      obtain ⟨A, Y, h1, h2, h3⟩ := hc xs x hx hp
      rw [h1, allP_mapp] at hA'
      cases hA'
      exact ⟨Y, h2, h3⟩
    split at h
    · rename_i hy
      cases h
      obtain ⟨Y, h1, h2⟩ := fin hp
      rw [hy] at h1
      have hY : Y = [] := by
        have := congrArg List.length h1
        simp [avs] at this
        exact List.length_eq_zero_iff.1 (by omega)
      subst hY
      exact ⟨.inr ⟨A', ty, t.w, t.enc (l x), (l x).length, [], .inl ⟨hA', h2⟩, rfl, rfl, rfl⟩, trivial⟩
    · rename_i y r' hy
      cases h
      obtain ⟨Y, h1, h2⟩ := fin hp
      rw [hy] at h1
      refine ⟨.inr ⟨A', ty, t.w, t.enc (l x), (l x).length, Y, .inl ⟨hA', h2⟩, ?_, rfl, rfl⟩, trivial⟩
      show rowO n (l x).length Y = mkTup (avs (.own n t (l x).length :: y :: r'))
      cases Y with
      | nil => simp [avs] at h1
      | cons y0 Y =>
        rw [avs, h1]
        unfold rowO mkTup
        rfl
  · rename_i ty t l
    split at h
    case h_2 => cases h
    rename_i rest
    split at h <;> cases h
    rename_i A' x hA' hx
    obtain ⟨A, h1, h2⟩ := hc _ x hx hp
    have hA2 : A' = A := by
      have h1 : AV.nil :: avs rest = .nil :: A.map .p := h1
      rw [List.cons.injEq] at h1
      rw [h1.2, allP_mapp] at hA'
      cases hA'; rfl
    subst hA2
    exact ⟨.inr ⟨A', ty, t.w, t.enc (l x), (l x).length, [], .inr ⟨avs rest, rfl, hA', h2⟩, rfl, rfl, rfl⟩, trivial⟩
  · rename_i t ty l'
    split at h
    case h_2 => cases h
    rename_i s t2 m rest
    split at h
    case h_2 => cases h
    rename_i ty' t' l A' hs hA'
    split at h
    case h_2 => cases h
    rename_i he _ hty
    subst he
    split at h <;> cases h
    rename_i x hx
    have hm : m = l.length := hp _ (by simp)
    obtain ⟨A, h1, h2⟩ := hc l rest x hx (fun p h => hp p (List.mem_cons_of_mem _ h))
    have hty := Nat.eq_of_beq_eq_true hty
    refine ⟨.inl (.inr ?_), trivial⟩
    refine ⟨ty, t'.w, t'.enc l, by unfold Sg.a; rw [hs, hty]; rfl, Nat.ne_of_gt t'.w_pos, A, t'.enc (l' x), by rw [h1, allP_mapp], by rw [hm]; exact h2, rfl, rfl, rfl⟩
  · rename_i ty cells'
    split at h
    case h_2 => cases h
    rename_i s rest
    split at h
    case h_2 => cases h
    rename_i ty' cs A' hs hA'
    split at h <;> cases h
    rename_i x hty hx
    obtain ⟨A, q, q', h1, h2, h3, h4⟩ := hc cs rest x hx hp
    have hty := Nat.eq_of_beq_eq_true hty
    refine ⟨.inl (.inr ?_), trivial⟩
    refine ⟨ty, q, by unfold Sg.a; rw [hs, hty]; show some (⟨ty, 0, avs cs⟩ : Ob) = _; rw [h2], A, q', by rw [h1, allP_mapp], h4, rfl, rfl, ?_⟩
    show _ = [(s, some (⟨ty, 0, avs (cells' x)⟩ : Ob))]
    rw [h3]
def scallee (P : Program) (T : Tab) (n : Nat) (σ : Sg) (fv : SV) (xs : List SV) : SR := match fv with
  | .fn g a b => scall T n σ g (a ++ xs ++ b)
  | .fnp g a b => (match allP (avs a), allP (avs b) with | some _, some _ => scall T n σ g (a ++ xs ++ b) | _, _ => none)
  | .clo1 pv t q dom => (match xs with
    | [v] => (match argS t v with | some x => some ([dom x ∧ Clo1Ok P pv t q dom], .bool (q x), [], []) | none => none)
    | _ => none)
  | .clo2 pv t q dom => (match xs with
    | [v, u] => (match argS t v, argS t u with | some x, some y => some ([dom x y ∧ Clo2Ok P pv t q dom], .int .i64 (q x y), [], []) | _, _ => none)
    | _ => none)
  | _ => none
theorem scallee_ok {P : Program} {T : Tab} (hT : T.Ok P) {n : Nat} {σ : Sg} {fv : SV} {xs : List SV} {ps : List Prop} {r : SV} {rd : List Nat} {W : SSto} (h : scallee P T n σ fv xs = some (ps, r, rd, W)) (hp : ∀ p ∈ ps, p) :
    (callA P σ.a fv.av (avs xs) (fun r' R' W' => r' = r.av ∧ R' = rd ∧ W' = W.sto) ∨ callO P n fv.av (avs xs) (fun r' R' W' => r' = r.av ∧ R' = rd ∧ W' = W.sto)) ∧ r.ok := by
  unfold scallee at h
  split at h
  · rename_i g a b
    have := scall_ok hT h hp
    rw [avs_append, avs_append] at this
    exact this
  · rename_i g a b
    split at h
    case h_2 => cases h
    rename_i x y h1 h2
    have := scall_ok hT h hp
    rw [avs_append, avs_append, allP_map h1, allP_map h2] at this
    have e : (SV.fnp g a b).av = .p (.fn (.func g) x y) := by simp only [SV.av, h1, h2]
    rw [e]; exact this
  · rename_i pv t q dom
    split at h
    case h_2 => cases h
    rename_i v
    split at h <;> cases h
    rename_i x hx
    obtain ⟨h1, f, first, caps, rfl, h2⟩ := hp _ (List.mem_singleton.2 rfl)
    obtain ⟨fr, h3⟩ := h2 x h1
    refine ⟨.inl ?_, trivial⟩
    show goCall P σ.a f (first.map .p ++ [v.av] ++ caps.map .p) _
    have e : first.map AV.p ++ [v.av] ++ caps.map AV.p = (first ++ [t.argP x] ++ caps).map .p := by
      rw [argS_av hx, List.map_append, List.map_append]; rfl
    rw [e]
    exact goCall_pure h3 (allP_mapp _) ⟨rfl, rfl, rfl⟩
  · rename_i pv t q dom
    split at h
    case h_2 => cases h
    rename_i v u
    split at h <;> cases h
    rename_i x y hx hy
    obtain ⟨h1, f, first, caps, rfl, h2⟩ := hp _ (List.mem_singleton.2 rfl)
    obtain ⟨fr, h3⟩ := h2 x y h1
    refine ⟨.inl ?_, trivial⟩
    show goCall P σ.a f (first.map .p ++ [v.av, u.av] ++ caps.map .p) _
    have e : first.map AV.p ++ [v.av, u.av] ++ caps.map AV.p = (first ++ [t.argP x, t.argP y] ++ caps).map .p := by
      rw [argS_av hx, argS_av hy, List.map_append, List.map_append]; rfl
    rw [e]
    exact goCall_pure h3 (allP_mapp _) ⟨rfl, rfl, rfl⟩
  · cases h
structure Cx where
  P : Program
  T : Tab
  lt : TypeId → Option LT
  q : EqT
def Cx.Ok (X : Cx) : Prop := X.T.Ok X.P ∧ X.q.Ok X.P
def gate : Option SV → SR
  | some r => (match r.ape with | false => some ([], r, [], []) | true => none)
  | none => none
theorem gate_some {o : Option SV} {ps : List Prop} {r : SV} {rd : List Nat} {W : SSto} (h : gate o = some (ps, r, rd, W)) : o = some r ∧ r.ok ∧ ps = [] ∧ rd = [] ∧ W = [] := by
  unfold gate at h
  split at h
  · split at h <;> cases h
    rename_i hh; exact ⟨rfl, SV.ok_of hh, rfl, rfl, rfl⟩
  · cases h
def gate2 : Option (List Prop × SV) → SR
  | some (ps, r) => (match r.ape with | false => some (ps, r, [], []) | true => none)
  | none => none
theorem gate2_some {o : Option (List Prop × SV)} {ps : List Prop} {r : SV} {rd : List Nat} {W : SSto} (h : gate2 o = some (ps, r, rd, W)) : o = some (ps, r) ∧ r.ok ∧ rd = [] ∧ W = [] := by
  unfold gate2 at h
  split at h
  · split at h <;> cases h
    rename_i hh; exact ⟨rfl, SV.ok_of hh, rfl, rfl⟩
  · cases h
def gate3 : SR → SR
  | some (ps, r, rd, W) => (match r.ape with | false => some (ps, r, rd, W) | true => none)
  | none => none
theorem gate3_some {o : SR} {ps : List Prop} {r : SV} {rd : List Nat} {W : SSto} (h : gate3 o = some (ps, r, rd, W)) : o = some (ps, r, rd, W) ∧ r.ok := by
  unfold gate3 at h
  split at h
  · split at h <;> cases h
    rename_i hh; exact ⟨rfl, SV.ok_of hh⟩
  · cases h
def sasg (raw : Bool) (x : SV) : SV := match raw with
  | true => (match x with | .nil => .sl 0 [] | y => y)
  | false => x
def sop (X : Cx) (raw : Bool) (n : Nat) (o : Op) (E : SE) (σ : Sg) : SR := match o with
  | .move x => some ([], E x, [], [])
  | .assign x => some ([], sasg raw (E x), [], [])
  | .pick c a b => gate (spick (E c) (E a) (E b))
  | .alloc t => salloc X.P n t
  | .box t x => sbox n t (E x)
  | .build t parts => sbuild X.P t (parts.toList.map fun q => (q.1, E q.2))
  | .buildSlice t len parts => sbslice X.P n t len (parts.toList.map fun q => (q.1, E q.2))
  | .load t x => gate3 (sload X.P t (E x) σ)
  | .store t a x => sstore X.P t (E a) (E x) σ
  | .nilCheck x => (match nilA (E x).av with | true => some ([], E x, [], []) | false => none)
  | .binOp op t x y _ => gate2 (sbin X.P X.q raw op t (E x) (E y))
  | .unOp op _ x => gate2 (sun raw op (E x))
  | .convert s d x => gate2 (sconv X.P raw s d (E x))
  | .makeFunc (.func f) first caps => some ([], .fn f (first.toList.map E) (caps.toList.map E), [], [])
  | .slice t x lo hi none => (match endS E lo, endS E hi with | some a, some b => gate2 (sslice X.P t (E x) a b) | _, _ => none)
  | .fieldAddr t x f => (match sfaddr X.P t (E x) f with | some r => some ([], r, [], []) | none => none)
  | .field t x f => gate (sfield X.P t (E x) f)
  | .indexAddr t x i => (match siaddr X.P t (E x) (E i) with | some (ps, r) => some (ps, r, [], []) | none => none)
  | .extract x i => gate (sextr (E x) i)
  | .call { callee := .value f, args, .. } => scallee X.P X.T n σ (E f) (args.toList.map E)
  | .call { callee := .builtin .len, args := ⟨[x]⟩, argTypes := ⟨[t]⟩ } => gate (slen X.P t (E x))
  | .call { callee := .builtin .append, args := ⟨[x, y]⟩, argTypes := ⟨[t, t']⟩ } => sapp X.P X.lt n t t' σ (E x) (E y)
  | .call { callee := .builtin .min, args := ⟨[x, y]⟩, .. } => gate (smm min (E x) (E y))
  | .call { callee := .builtin .max, args := ⟨[x, y]⟩, .. } => gate (smm max (E x) (E y))
  | _ => none
theorem sop_ok {X : Cx} (hX : X.Ok) {raw : Bool} {n : Nat} {o : Oper} {E : SE} {σ : Sg} (hE : ∀ x, (E x).ok) {ps : List Prop} {r : SV} {rd : List Nat} {W : SSto} (h : sop X raw n o.op E σ = some (ps, r, rd, W)) (hp : ∀ p ∈ ps, p) :
    AOp X.P n o E.a σ.a (fun r' R' W' => r' = r.av ∧ R' = rd ∧ W' = W.sto) ∧ r.ok := by
  obtain ⟨hT, hq⟩ := hX
  generalize ho : o.op = op at h
  have A : ∀ {R : SR}, SopOk X.P n o E σ R → R = some (ps, r, rd, W) → AOp X.P n o E.a σ.a (fun r' R' W' => r' = r.av ∧ R' = rd ∧ W' = W.sto) := fun hs e => hs _ _ _ _ e hp
  have avl : ∀ l : List Operand, avs (l.map E) = l.map E.a := fun l => by rw [avs_map, List.map_map]; rfl
  unfold sop at h
  split at h
  · rename_i x
    cases h
    exact ⟨by unfold AOp; rw [ho]; exact ⟨rfl, rfl, rfl⟩, hE x⟩
  · rename_i x
    cases h
    unfold sasg
    split
    · split
      · rename_i hx
        exact ⟨by unfold AOp; rw [ho]; exact .inr ⟨by show (E x).av = .nil; rw [hx]; rfl, rfl, rfl, rfl⟩, trivial⟩
      · exact ⟨by unfold AOp; rw [ho]; exact .inl ⟨rfl, rfl, rfl⟩, hE x⟩
    · exact ⟨by unfold AOp; rw [ho]; exact .inl ⟨rfl, rfl, rfl⟩, hE x⟩
  · obtain ⟨h1, h2, rfl, rfl, rfl⟩ := gate_some h
    exact ⟨by unfold AOp; rw [ho]; exact spick_av h1 ⟨rfl, rfl, rfl⟩, h2⟩
  · refine ⟨A (salloc_ok ho) h, ?_⟩
    unfold salloc at h; split at h <;> cases h; trivial
  · refine ⟨A (sbox_ok ho) h, ?_⟩
    unfold sbox at h; split at h <;> cases h; trivial
  · refine ⟨A (sbuild_ok ho) h, ?_⟩
    unfold sbuild at h
    split at h
    · split at h <;> cases h; trivial
    · cases h
  · refine ⟨A (sbslice_ok ho) h, ?_⟩
    unfold sbslice at h
    split at h
    · split at h
      · split at h <;> cases h; trivial
      · cases h
    · cases h
  · rename_i t x
    obtain ⟨h1, h2⟩ := gate3_some h
    exact ⟨A (sload_ok ho (hE x)) h1, h2⟩
  · refine ⟨A (sstore_ok ho) h, ?_⟩
    unfold sstore at h
    split at h
    · split at h
      · split at h
        · split at h
          · split at h <;> cases h; trivial
          · split at h <;> cases h; trivial
          · cases h
        · split at h
          · split at h <;> cases h; trivial
          · cases h
        · cases h
      · cases h
    · cases h
  · rename_i x
    split at h <;> cases h
    rename_i hn
    exact ⟨by unfold AOp; rw [ho]; exact ⟨hn, rfl, rfl, rfl⟩, hE x⟩
  · obtain ⟨h1, h2, rfl, rfl⟩ := gate2_some h
    exact ⟨by unfold AOp; rw [ho]; exact sbin_av hq h1 hp ⟨rfl, rfl, rfl⟩, h2⟩
  · obtain ⟨h1, h2, rfl, rfl⟩ := gate2_some h
    exact ⟨by unfold AOp; rw [ho]; exact sun_av h1 hp ⟨rfl, rfl, rfl⟩, h2⟩
  · obtain ⟨h1, h2, rfl, rfl⟩ := gate2_some h
    exact ⟨by unfold AOp; rw [ho]; exact sconv_av h1 hp ⟨rfl, rfl, rfl⟩, h2⟩
  · cases h
    refine ⟨?_, trivial⟩
    unfold AOp; rw [ho]; dsimp only
    refine ⟨?_, rfl, rfl⟩
    show _ = AV.fn _ (avs _) (avs _)
    rw [avl, avl]
  · rename_i t x lo hi
    split at h
    case h_2 => cases h
    rename_i a b ha hb
    obtain ⟨h1, h2, rfl, rfl⟩ := gate2_some h
    refine ⟨?_, h2⟩
    unfold AOp; rw [ho]; dsimp only
    have key : ∀ (z : Option Operand) (c : Option Int) (d : Int), endS E z = some c → loA E.a z d = some (c.getD d) := by
      intro z c d hz
      cases z with
      | none => cases hz; rfl
      | some z =>
        unfold endS at hz
        dsimp only at hz
        split at hz <;> cases hz
        rename_i k hk
        exact intS_av hk
    rw [key lo a 0 ha, key hi b _ hb]
    exact sslice_av h1 hp ⟨rfl, rfl, rfl⟩
  · rename_i t x f
    split at h <;> cases h
    rename_i h1
    have := sfaddr_av h1 (K := fun r' => r' = r.av ∧ ([] : List Nat) = [] ∧ ([] : Sto) = SSto.sto []) ⟨rfl, rfl, rfl⟩
    exact ⟨by unfold AOp; rw [ho]; exact this.1, this.2 (hE x)⟩
  · obtain ⟨h1, h2, rfl, rfl, rfl⟩ := gate_some h
    exact ⟨by unfold AOp; rw [ho]; exact sfield_av h1 ⟨rfl, rfl, rfl⟩, h2⟩
  · split at h <;> cases h
    rename_i h1
    have := siaddr_av h1 hp (K := fun r' => r' = r.av ∧ ([] : List Nat) = [] ∧ ([] : Sto) = SSto.sto []) ⟨rfl, rfl, rfl⟩
    exact ⟨by unfold AOp; rw [ho]; exact this.1, this.2⟩
  · obtain ⟨h1, h2, rfl, rfl, rfl⟩ := gate_some h
    exact ⟨by unfold AOp; rw [ho]; exact sextr_av h1 ⟨rfl, rfl, rfl⟩, h2⟩
  · have := scallee_ok hT h hp
    rw [avl] at this
    exact ⟨by unfold AOp; rw [ho]; exact this.1, this.2⟩
  · obtain ⟨h1, h2, rfl, rfl, rfl⟩ := gate_some h
    exact ⟨by unfold AOp; rw [ho]; exact slen_av h1 ⟨rfl, rfl, rfl⟩, h2⟩
  · have := sapp_av h hp
    refine ⟨by unfold AOp; rw [ho]; exact this, ?_⟩
    unfold sapp at h
    split at h
    · split at h
      · split at h <;> cases h; trivial
      · cases h
    · cases h
  · obtain ⟨h1, h2, rfl, rfl, rfl⟩ := gate_some h
    exact ⟨by unfold AOp; rw [ho]; exact smm_av h1 ⟨rfl, rfl, rfl⟩, h2⟩
  · obtain ⟨h1, h2, rfl, rfl, rfl⟩ := gate_some h
    exact ⟨by unfold AOp; rw [ho]; exact smm_av h1 ⟨rfl, rfl, rfl⟩, h2⟩
  · cases h
end Go.Proofs.YtdaeofhdgabhjaaGreat
