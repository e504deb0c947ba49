/- A region that draws its order, by an invariant: one obligation an operation, whatever the order. -/
import Derived.Test.YtpjjbdpkhmeldaaDoorB2
import Derived.Orders
namespace Go.Proofs.YtpjjbdpkhmeldaaDoor
open Go.RowKit

theorem count_set_true : ∀ (l : List Bool) (i : Nat), l[i]? = some false → (l.set i true).count false + 1 = l.count false
  | [], i, h => by simp at h
  | b :: l, 0, h => by
    simp at h; subst h; simp
  | b :: l, i + 1, h => by
    have ih := count_set_true l i (by simpa using h)
    simp only [List.set_cons_succ, List.count_cons]
    omega

theorem wpAny_inv {P : Program} {ops : Array Oper} {Q : Exit → Act → World → Prop}
    (hac : ∀ (i : Nat) (o : Oper), ops[i]? = some o → ∀ e ∈ o.after.toList, Region.binds .any e = true → e.on < i)
    (Inv : (Nat → Bool) → Act → World → Prop)
    (hstep : ∀ (i : Nat) (o : Oper) (D : Nat → Bool) (a : Act) (w : World), ops[i]? = some o → Inv D a w → D i = false → (∀ e ∈ o.after.toList, Region.binds .any e = true → D e.on = true) →
      wpOp P ops Q i (fun a' w' => Inv (fun j => if j = i then true else D j) a' w') a w)
    (hend : ∀ (D : Nat → Bool) (a : Act) (w : World), Inv D a w → (∀ i, i < ops.size → D i = true) → Q .normal a w) :
    ∀ (fuel : Nat) (L : Array Bool) (a : Act) (w : World), L.size = ops.size → L.toList.count false ≤ fuel → Inv (fun j => L.getD j false) a w → wpAny P .any ops Q fuel L a w := by
  have key : ∀ (L : Array Bool), L.size = ops.size → Region.ready .any ops L = [] → ∀ i, i < ops.size → L.getD i false = true := by
    intro L hL hr i
    induction i using Nat.strongRecOn with
    | ind i ih =>
      intro hi
      rcases Bool.eq_false_or_eq_true (L.getD i false) with h | h
      · exact h
      · exfalso
        have hmem : i ∈ Region.ready .any ops L := by
          unfold Region.ready
          rw [List.mem_filter]
          refine ⟨List.mem_range.2 hi, ?_⟩
          have h1 : L.getD i true = false := by
            rw [Array.getD_eq_getD_getElem?, Array.getElem?_eq_getElem (by omega)] at h ⊢
            exact h
          obtain ⟨o, ho⟩ : ∃ o, ops[i]? = some o := ⟨_, Array.getElem?_eq_getElem hi⟩
          rw [h1, ho]
          simp only [Bool.not_false, Bool.true_and, Option.map_some, Option.getD_some]
          rw [Array.all_eq_true']
          intro e he
          rcases Bool.eq_false_or_eq_true (Region.binds .any e) with hb | hb
          · have := ih e.on (hac i o ho e (Array.mem_toList_iff.2 he) hb) (by have := hac i o ho e (Array.mem_toList_iff.2 he) hb; omega)
            rw [hb, this]; rfl
          · rw [hb]; rfl
        rw [hr] at hmem
        cases hmem
  intro fuel
  induction fuel with
  | zero =>
    intro L a w hL hc hI
    have hall : ∀ i, i < ops.size → L.getD i false = true := by
      intro i hi
      rcases Bool.eq_false_or_eq_true (L.getD i false) with h | h
      · exact h
      · exfalso
        have h0 : L.toList.count false = 0 := by omega
        rw [List.count_eq_zero] at h0
        apply h0
        rw [Array.getD_eq_getD_getElem?, Array.getElem?_eq_getElem (by omega)] at h
        simp at h
        rw [← h]
        exact Array.mem_toList_iff.2 (Array.getElem_mem _)
    refine ⟨?_, hend _ a w hI hall⟩
    unfold Region.ready
    rw [List.filter_eq_nil_iff]
    intro i hi
    have hi' := List.mem_range.1 hi
    have := hall i hi'
    rw [Array.getD_eq_getD_getElem?, Array.getElem?_eq_getElem (by omega)] at this
    have h2 : L.getD i true = true := by
      rw [Array.getD_eq_getD_getElem?, Array.getElem?_eq_getElem (by omega)]; exact this
    rw [h2]; simp
  | succ fuel ih =>
    intro L a w hL hc hI
    refine ⟨fun hr => hend _ a w hI (key L hL hr), ?_⟩
    intro i hi
    unfold Region.ready at hi
    rw [List.mem_filter] at hi
    obtain ⟨hi1, hi2⟩ := hi
    have hlt := List.mem_range.1 hi1
    obtain ⟨o, ho⟩ : ∃ o, ops[i]? = some o := ⟨_, Array.getElem?_eq_getElem hlt⟩
    rw [ho] at hi2
    simp only [Option.map_some, Option.getD_some, Bool.and_eq_true, Bool.not_eq_true'] at hi2
    obtain ⟨hf, hall⟩ := hi2
    have hLi : L[i]? = some false := by
      rw [Array.getD_eq_getD_getElem?, Array.getElem?_eq_getElem (by omega)] at hf
      rw [Array.getElem?_eq_getElem (by omega)]
      simpa using hf
    have hD : L.getD i false = false := by rw [Array.getD_eq_getD_getElem?, hLi]; rfl
    have hpre : ∀ e ∈ o.after.toList, Region.binds .any e = true → L.getD e.on false = true := by
      intro e he hb
      rw [Array.all_eq_true'] at hall
      have := hall e (Array.mem_toList_iff.1 he)
      rw [hb] at this
      simpa using this
    refine wpOp_mono ?_ (hstep i o _ a w ho hI hD hpre)
    intro a' w' hI'
    refine ih (L.setIfInBounds i true) a' w' (by simpa using hL) ?_ ?_
    · have := count_set_true L.toList i (by simpa using hLi)
      rw [Array.toList_setIfInBounds]
      omega
    · have e : (fun j => (L.setIfInBounds i true).getD j false) = (fun j => if j = i then true else L.getD j false) := by
        funext j
        rw [Array.getD_eq_getD_getElem?, Array.getD_eq_getD_getElem?, Array.getElem?_setIfInBounds]
        by_cases h : i = j
        · subst h; rw [if_pos rfl, if_pos (by omega), if_pos rfl]; rfl
        · rw [if_neg h, if_neg (fun h' => h h'.symm)]
      rw [e]; exact hI'

theorem wp_region_inv {P : Program} {id : Nat} {ops : Array Oper} {Q : Exit → Act → World → Prop} {a0 : Act} {w0 : World} (hm : P.follows .mixedOrders = true)
    (hac : ∀ (i : Nat) (o : Oper), ops[i]? = some o → ∀ e ∈ o.after.toList, Region.binds .any e = true → e.on < i)
    (Inv : (Nat → Bool) → Act → World → Prop) (h0 : Inv (fun _ => false) a0 w0.drew)
    (hstep : ∀ (i : Nat) (o : Oper) (D : Nat → Bool) (a : Act) (w : World), ops[i]? = some o → Inv D a w → D i = false → (∀ e ∈ o.after.toList, Region.binds .any e = true → D e.on = true) →
      wpOp P ops Q i (fun a' w' => Inv (fun j => if j = i then true else D j) a' w') a w)
    (hend : ∀ (D : Nat → Bool) (a : Act) (w : World), Inv D a w → (∀ i, i < ops.size → D i = true) → Q .normal a w) :
    (Code.region id ops true).wp P Q a0 w0 := by
  refine wp_region_any hm (wpAny_inv hac Inv hstep hend _ _ _ _ (by simp) ?_ ?_)
  · simp
  · have e : (fun j => (Array.replicate ops.size false).getD j false) = (fun _ => false) := by
      funext j
      rw [Array.getD_eq_getD_getElem?, Array.getElem?_replicate]
      split <;> rfl
    rw [e]; exact h0

/-- an operand's value, in a frame that is told slot by slot -/
def evalV (V : Nat → Value) : Operand → Value
  | .tmp t => V t
  | .const v => v
  | .global g => .pointer (some ⟨g, 0, none⟩)
  | .func f => .func (.func f) #[] #[]

/-- what one operation does -/
def opRun (P : Program) (o : Oper) (V : Nat → Value) (w : World) (K : Value → World → Prop) : Prop :=
  match (execOp (evalV V) o).run P w with
  | .ok (.value v) w' => K v w'
  | .ok .skip w' => K undef w'
  | .ok (.enter f args) w' => Calls P f args w' fun e w'' => ∃ v, e = .returned v ∧ K v w''
  | _ => False

def putAll (a0 : Act) (dsts : List Nat) (V : Nat → Value) : Act := dsts.foldl (fun a s => a.put (some s) (V s)) a0

theorem putAll_facts (V : Nat → Value) : ∀ (dsts : List Nat) (a0 : Act), (∀ s ∈ dsts, s < a0.tmps.size) →
    (putAll a0 dsts V).defers = a0.defers ∧ (putAll a0 dsts V).tmps.size = a0.tmps.size ∧ ∀ s, s < a0.tmps.size → (putAll a0 dsts V).tmps.getD s undef = if s ∈ dsts then V s else a0.tmps.getD s undef
  | [], a0, _ => ⟨rfl, rfl, fun s _ => by simp [putAll]⟩
  | d :: dsts, a0, h => by
    have hs : (a0.put (some d) (V d)).tmps.size = a0.tmps.size := by simp [Act.put]
    obtain ⟨h1, h2, h3⟩ := putAll_facts V dsts (a0.put (some d) (V d)) (fun s hs' => by rw [hs]; exact h s (List.mem_cons_of_mem _ hs'))
    refine ⟨h1, h2.trans hs, ?_⟩
    intro s hlt
    have := h3 s (by rw [hs]; exact hlt)
    show (putAll (a0.put (some d) (V d)) dsts V).tmps.getD s undef = _
    rw [this]
    by_cases hm : s ∈ dsts
    · rw [if_pos hm, if_pos (List.mem_cons_of_mem _ hm)]
    · rw [if_neg hm]
      have hd := h d List.mem_cons_self
      by_cases e : s = d
      · subst e
        rw [if_pos List.mem_cons_self]
        simp [Act.put, hlt]
      · rw [if_neg (by simp [e, hm])]
        simp only [Act.put, Array.getD_eq_getD_getElem?, Array.getElem?_setIfInBounds]
        rw [if_neg (fun e' => e e'.symm)]

theorem Act.eval_evalV (a : Act) : a.eval = evalV (fun s => a.tmps.getD s undef) := by
  funext x
  cases x <;> rfl

theorem wp_region_V {P : Program} {id : Nat} {ops : Array Oper} {Q : Exit → Act → World → Prop} {a0 : Act} {w0 : World} (hm : P.follows .mixedOrders = true)
    (dsts : List Nat)
    (hok : ((List.range ops.size).all fun i => ((ops[i]?).map fun o => o.guard.isNone && (o.after.toList.all fun e => !Region.binds .any e || decide (e.on < i)) && (match o.dst with | some d => dsts.contains d | none => true)).getD true) = true)
    (hds : ∀ s ∈ dsts, s < a0.tmps.size)
    (F : (Nat → Bool) → (Nat → Value) → World → Prop) (h0 : F (fun _ => false) (fun s => a0.tmps.getD s undef) w0.drew)
    (hstep : ∀ (i : Nat) (o : Oper) (D : Nat → Bool) (V : Nat → Value) (w : World), ops[i]? = some o → F D V w → D i = false → (∀ e ∈ o.after.toList, Region.binds .any e = true → D e.on = true) →
      (∀ s, s ∉ dsts → V s = a0.tmps.getD s undef) →
      opRun P o V w (fun v w' => F (fun j => if j = i then true else D j) (match o.dst with | some d => fun s => if s = d then v else V s | none => V) w'))
    (hend : ∀ (D : Nat → Bool) (V : Nat → Value) (w : World), F D V w → (∀ i, i < ops.size → D i = true) → Q .normal (putAll a0 dsts V) w) :
    (Code.region id ops true).wp P Q a0 w0 := by
  have hops : ∀ (i : Nat) (o : Oper), ops[i]? = some o → o.guard = none ∧ (∀ e ∈ o.after.toList, Region.binds .any e = true → e.on < i) ∧ (∀ d, o.dst = some d → d ∈ dsts) := by
    intro i o ho
    have hi : i < ops.size := (Array.getElem?_eq_some_iff.1 ho).1
    rw [List.all_eq_true] at hok
    have := hok i (List.mem_range.2 hi)
    rw [ho] at this
    simp only [Option.map_some, Option.getD_some, Bool.and_eq_true] at this
    obtain ⟨⟨g1, g2⟩, g3⟩ := this
    refine ⟨by simpa using g1, ?_, ?_⟩
    · intro e he hb
      rw [List.all_eq_true] at g2
      have := g2 e he
      rw [hb] at this
      simpa using this
    · intro d hd
      rw [hd] at g3
      simpa using g3
  refine wp_region_inv hm (fun i o ho => (hops i o ho).2.1) (fun D a w => a.defers = a0.defers ∧ a.tmps.size = a0.tmps.size ∧ (∀ s, s ∉ dsts → a.tmps.getD s undef = a0.tmps.getD s undef) ∧ F D (fun s => a.tmps.getD s undef) w) ⟨rfl, rfl, fun _ _ => rfl, h0⟩ ?_ ?_
  · intro i o D a w ho ⟨i1, i2, i3, i4⟩ hD hpre
    obtain ⟨hg, _, hdst⟩ := hops i o ho
    have hrun := hstep i o D (fun s => a.tmps.getD s undef) w ho i4 hD hpre i3
    have hput : ∀ (v : Value) (w' : World), F (fun j => if j = i then true else D j) (match o.dst with | some d => fun s => if s = d then v else a.tmps.getD s undef | none => fun s => a.tmps.getD s undef) w' →
        (a.put o.dst v).defers = a0.defers ∧ (a.put o.dst v).tmps.size = a0.tmps.size ∧ (∀ s, s ∉ dsts → (a.put o.dst v).tmps.getD s undef = a0.tmps.getD s undef) ∧ F (fun j => if j = i then true else D j) (fun s => (a.put o.dst v).tmps.getD s undef) w' := by
      intro v w' hF
      cases hd : o.dst with
      | none => rw [hd] at hF; exact ⟨i1, i2, i3, hF⟩
      | some d =>
        rw [hd] at hF
        have hdm := hdst d hd
        have hlt : d < a.tmps.size := by rw [i2]; exact hds d hdm
        have hget : ∀ s, (a.put (some d) v).tmps.getD s undef = if s = d then v else a.tmps.getD s undef := by
          intro s
          simp only [Act.put, Array.getD_eq_getD_getElem?, Array.getElem?_setIfInBounds]
          by_cases e : d = s
          · subst e; rw [if_pos rfl, if_pos hlt, if_pos rfl]; rfl
          · rw [if_neg e, if_neg (fun e' => e e'.symm)]
        refine ⟨i1, by simpa [Act.put] using i2, ?_, ?_⟩
        · intro s hs
          rw [hget, if_neg (fun e => hs (by rw [e]; exact hdm))]
          exact i3 s hs
        · have e : (fun s => (a.put (some d) v).tmps.getD s undef) = (fun s => if s = d then v else a.tmps.getD s undef) := funext hget
          rw [e]; exact hF
    unfold wpOp
    rw [ho]
    simp only []
    rw [if_pos (by simp [Region.wanted, hg])]
    refine .inl ?_
    unfold Oper.wp
    rw [Act.eval_evalV]
    unfold opRun at hrun
    cases hr : (execOp (evalV fun s => a.tmps.getD s undef) o).run P w with
    | halt x w' => rw [hr] at hrun; exact hrun.elim
    | ok n w' =>
      rw [hr] at hrun
      cases n <;> simp only [] at hrun <;> first | exact hrun.elim | skip
      · exact hput _ _ hrun
      · exact hput _ _ hrun
      · rename_i f args
        show Calls P f args w' _
        refine hrun.mono ?_
        rintro e w'' ⟨v, rfl, hK⟩
        exact hput _ _ hK
  · intro D a w ⟨i1, i2, i3, i4⟩ hall
    have := hend D _ w i4 hall
    obtain ⟨p1, p2, p3⟩ := putAll_facts (fun s => a.tmps.getD s undef) dsts a0 hds
    have e : putAll a0 dsts (fun s => a.tmps.getD s undef) = a := by
      obtain ⟨t, df⟩ := a
      have ht : (putAll a0 dsts (fun s => t.getD s undef)).tmps = t := by
        apply Array.ext
        · rw [p2]; exact i2.symm
        · intro s h1 h2
          have h3 := p3 s (by rw [← i2]; exact h2)
          rw [Array.getD_eq_getD_getElem?, Array.getElem?_eq_getElem h1, Option.getD_some] at h3
          rw [h3]
          by_cases hm : s ∈ dsts
          · rw [if_pos hm]; simp [Array.getD_eq_getD_getElem?, h2]
          · rw [if_neg hm, ← i3 s hm]; simp [Array.getD_eq_getD_getElem?, h2]
      have hdf : (putAll a0 dsts (fun s => t.getD s undef)).defers = df := p1.trans i1.symm
      show putAll a0 dsts (fun s => t.getD s undef) = { tmps := t, defers := df }
      cases hp : putAll a0 dsts (fun s => t.getD s undef) with
      | mk t' df' =>
        rw [hp] at ht hdf
        have e1 : t' = t := ht
        have e2 : df' = df := hdf
        rw [e1, e2]
    rw [e] at this
    exact this

end Go.Proofs.YtpjjbdpkhmeldaaDoor
