/- A region that draws its order and bears guards, by an invariant: one obligation an operation, whatever the order. -/
import Derived.Test.YtpjjbdpkhmeldaaDoorB4
namespace Go.Proofs.YtpjjbdpkhmeldaaDoor
open Go.RowKit

/-- what a guard's operation has yielded, in a frame that is told slot by slot -/
def gdV (ops : Array Oper) (V : Nat → Value) (j : Nat) : Option Bool :=
  match (ops[j]?).bind (·.dst) with
  | some d => (match V d with | .bool b => some b | _ => none)
  | none => none

theorem yielded_gdV (ops : Array Oper) (t : Array Value) : yielded ops t = gdV ops (fun s => t.getD s undef) := by
  funext j
  unfold yielded gdV
  cases h : (ops[j]?).bind (·.dst) with
  | none => rfl
  | some d =>
    simp only [Option.bind_some, Array.getD_eq_getD_getElem?]
    cases ht : t[d]? with
    | none => rfl
    | some v => cases v <;> rfl

theorem wp_region_G {P : Program} {id : Nat} {ops : Array Oper} {Q : Exit → Act → World → Prop} {a0 : Act} {w0 : World} (hm : P.follows .mixedOrders = true)
    (dsts : List Nat)
    (hok : ((List.range ops.size).all fun i => ((ops[i]?).map fun o => (o.after.toList.all fun e => !Region.binds .any e || decide (e.on < i)) && (match o.dst with | some d => dsts.contains d | none => true)).getD true) = true)
    (hds : ∀ s ∈ dsts, s < a0.tmps.size)
    (F : (Nat → Bool) → (Nat → Value) → World → Prop) (h0 : F (fun _ => false) (fun s => a0.tmps.getD s undef) w0.drew)
    (hstep : ∀ (i : Nat) (o : Oper) (D : Nat → Bool) (V : Nat → Value) (w : World), ops[i]? = some o → F D V w → D i = false → (∀ e ∈ o.after.toList, Region.binds .any e = true → D e.on = true) →
      (∀ s, s ∉ dsts → V s = a0.tmps.getD s undef) →
      if Region.wanted o (gdV ops V) = true then
        opRun P o V w (fun v w' => F (fun j => if j = i then true else D j) (match o.dst with | some d => fun s => if s = d then v else V s | none => V) w')
      else F (fun j => if j = i then true else D j) (match o.dst with | some d => fun s => if s = d then undef else V s | none => V) w)
    (hend : ∀ (D : Nat → Bool) (V : Nat → Value) (w : World), F D V w → (∀ i, i < ops.size → D i = true) → Q .normal (putAll a0 dsts V) w) :
    (Code.region id ops true).wp P Q a0 w0 := by
  have hops : ∀ (i : Nat) (o : Oper), ops[i]? = some o → (∀ e ∈ o.after.toList, Region.binds .any e = true → e.on < i) ∧ (∀ d, o.dst = some d → d ∈ dsts) := by
    intro i o ho
    have hi : i < ops.size := (Array.getElem?_eq_some_iff.1 ho).1
    rw [List.all_eq_true] at hok
    have := hok i (List.mem_range.2 hi)
    rw [ho] at this
    simp only [Option.map_some, Option.getD_some, Bool.and_eq_true] at this
    obtain ⟨g2, g3⟩ := this
    refine ⟨?_, ?_⟩
    · intro e he hb
      rw [List.all_eq_true] at g2
      have := g2 e he
      rw [hb] at this
      simpa using this
    · intro d hd
      rw [hd] at g3
      simpa using g3
  refine wp_region_inv hm (fun i o ho => (hops i o ho).1) (fun D a w => a.defers = a0.defers ∧ a.tmps.size = a0.tmps.size ∧ (∀ s, s ∉ dsts → a.tmps.getD s undef = a0.tmps.getD s undef) ∧ F D (fun s => a.tmps.getD s undef) w) ⟨rfl, rfl, fun _ _ => rfl, h0⟩ ?_ ?_
  · intro i o D a w ho ⟨i1, i2, i3, i4⟩ hD hpre
    obtain ⟨_, hdst⟩ := hops i o ho
    have hrun := hstep i o D (fun s => a.tmps.getD s undef) w ho i4 hD hpre i3
    have hput : ∀ (v : Value) (w' : World), F (fun j => if j = i then true else D j) (match o.dst with | some d => fun s => if s = d then v else a.tmps.getD s undef | none => fun s => a.tmps.getD s undef) w' →
        (a.put o.dst v).defers = a0.defers ∧ (a.put o.dst v).tmps.size = a0.tmps.size ∧ (∀ s, s ∉ dsts → (a.put o.dst v).tmps.getD s undef = a0.tmps.getD s undef) ∧ F (fun j => if j = i then true else D j) (fun s => (a.put o.dst v).tmps.getD s undef) w' := by
      intro v w' hF
      cases hd : o.dst with
      | none => rw [hd] at hF; exact ⟨i1, i2, i3, hF⟩
      | some d =>
        rw [hd] at hF
        have hdm := hdst d hd
        have hlt : d < a.tmps.size := by rw [i2]; exact hds d hdm
        have hget : ∀ s, (a.put (some d) v).tmps.getD s undef = if s = d then v else a.tmps.getD s undef := by
          intro s
          simp only [Act.put, Array.getD_eq_getD_getElem?, Array.getElem?_setIfInBounds]
          by_cases e : d = s
          · subst e; rw [if_pos rfl, if_pos hlt, if_pos rfl]; rfl
          · rw [if_neg e, if_neg (fun e' => e e'.symm)]
        refine ⟨i1, by simpa [Act.put] using i2, ?_, ?_⟩
        · intro s hs
          rw [hget, if_neg (fun e => hs (by rw [e]; exact hdm))]
          exact i3 s hs
        · have e : (fun s => (a.put (some d) v).tmps.getD s undef) = (fun s => if s = d then v else a.tmps.getD s undef) := funext hget
          rw [e]; exact hF
    unfold wpOp
    rw [ho]
    simp only []
    rw [yielded_gdV]
    by_cases hw : Region.wanted o (gdV ops fun s => a.tmps.getD s undef) = true
    · rw [if_pos hw] at hrun ⊢
      refine .inl ?_
      unfold Oper.wp
      rw [Act.eval_evalV]
      unfold opRun at hrun
      cases hr : (execOp (evalV fun s => a.tmps.getD s undef) o).run P w with
      | halt x w' => rw [hr] at hrun; exact hrun.elim
      | ok n w' =>
        rw [hr] at hrun
        cases n <;> simp only [] at hrun <;> first | exact hrun.elim | skip
        · exact hput _ _ hrun
        · exact hput _ _ hrun
        · rename_i f args
          show Calls P f args w' _
          refine hrun.mono ?_
          rintro e w'' ⟨v, rfl, hK⟩
          exact hput _ _ hK
    · rw [if_neg hw] at hrun ⊢
      exact hput _ _ hrun
  · intro D a w ⟨i1, i2, i3, i4⟩ hall
    have := hend D _ w i4 hall
    obtain ⟨p1, p2, p3⟩ := putAll_facts (fun s => a.tmps.getD s undef) dsts a0 hds
    have e : putAll a0 dsts (fun s => a.tmps.getD s undef) = a := by
      obtain ⟨t, df⟩ := a
      have ht : (putAll a0 dsts (fun s => t.getD s undef)).tmps = t := by
        apply Array.ext
        · rw [p2]; exact i2.symm
        · intro s h1 h2
          have h3 := p3 s (by rw [← i2]; exact h2)
          rw [Array.getD_eq_getD_getElem?, Array.getElem?_eq_getElem h1, Option.getD_some] at h3
          rw [h3]
          by_cases hm : s ∈ dsts
          · rw [if_pos hm]; simp [Array.getD_eq_getD_getElem?, h2]
          · rw [if_neg hm, ← i3 s hm]; simp [Array.getD_eq_getD_getElem?, h2]
      have hdf : (putAll a0 dsts (fun s => t.getD s undef)).defers = df := p1.trans i1.symm
      show putAll a0 dsts (fun s => t.getD s undef) = { tmps := t, defers := df }
      cases hp : putAll a0 dsts (fun s => t.getD s undef) with
      | mk t' df' =>
        rw [hp] at ht hdf
        have e1 : t' = t := ht
        have e2 : df' = df := hdf
        rw [e1, e2]
    rw [e] at this
    exact this

end Go.Proofs.YtpjjbdpkhmeldaaDoor
