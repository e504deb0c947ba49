/- What the statements about triangulations stand on: contracts of functions, plain laws. Part 3 of 6, no condition of its own. (X5 X6 X7 X8 X9 X10 K1 K2 K3 K4 K5) -/
import Derived.Test.YtdaeofhdgabhjaaGreatD2
namespace Go.Proofs.YtdaeofhdgabhjaaGreat
open Go.RowKit
theorem aops_mono {P : Program} {N : Nat} {ds : List (Option Nat)} {K K' : List AV → Sto → Feet → Prop} (hK : ∀ F L log, K F L log → K' F L log) : ∀ {l : List Oper} {i : Nat} {F : List AV} {L : Sto} {log : Feet}, aops P N ds l i F L log K → aops P N ds l i F L log K'
  | [], i, F, L, log, h => by unfold aops at *; exact hK _ _ _ h
  | o :: rest, i, F, L, log, h => by
    unfold aops at *
    split at h
    · obtain ⟨r, R, W, h1, h2⟩ := h; exact ⟨r, R, W, h1, aops_mono hK h2⟩
    · split at h
      · split at h
        · rename_i e; rw [if_pos e]; obtain ⟨r, R, W, h1, h2⟩ := h; exact ⟨r, R, W, h1, aops_mono hK h2⟩
        · rename_i e; rw [if_neg e]; exact aops_mono hK h
      · exact aops_mono hK h
      · exact h
theorem awp_mono {P : Program} : ∀ (c : Code) {Q Q' : APost} (_ : ∀ e F L N, Q e F L N → Q' e F L N) {F : List AV} {L : Sto} {N : Nat}, awp P c Q F L N → awp P c Q' F L N := by
  intro c
  induction c with
  | skip => intro Q Q' hQ F L N h; exact hQ _ _ _ _ h
  | region id ops draw =>
    intro Q Q' hQ F L N h
    cases draw with
    | true => obtain ⟨anc, h1, h2, h3, h4⟩ := h; exact ⟨anc, h1, h2, h3, aops_mono (fun F L log ⟨a, b⟩ => ⟨a, hQ _ _ _ _ b⟩) h4⟩
    | false => obtain ⟨h1, h2⟩ := h; exact ⟨h1, aops_mono (fun F L log a => hQ _ _ _ _ a) h2⟩
  | seq a b iha ihb =>
    intro Q Q' hQ F L N h
    obtain ⟨M, h1, h2⟩ := h
    refine ⟨M, iha ?_ h1, fun F L N hm => ?_⟩
    · intro e F L N h; cases e <;> first | exact h | exact hQ _ _ _ _ h
    · obtain ⟨F', L', N', h3, h4⟩ := h2 F L N hm; exact ⟨F', L', N', h3, ihb hQ h4⟩
  | cond c t e iht ihe =>
    intro Q Q' hQ F L N h
    obtain ⟨b, hb, h1, h2⟩ := h
    exact ⟨b, hb, fun e => iht hQ (h1 e), fun e => ihe hQ (h2 e)⟩
  | block id c ih =>
    intro Q Q' hQ F L N h
    refine ih ?_ h
    intro e F L N h
    cases e <;> first | exact hQ _ _ _ _ h | skip
    dsimp only at h ⊢
    split at h
    · rename_i e; rw [if_pos e]; exact hQ _ _ _ _ h
    · rename_i e; rw [if_neg e]; exact hQ _ _ _ _ h
  | loop c ih =>
    intro Q Q' hQ F L N h
    obtain ⟨Inv, μ, h1, h2⟩ := h
    refine ⟨Inv, μ, h1, fun F L N hi => ih ?_ (h2 F L N hi)⟩
    intro e F L N h
    cases e <;> first | exact h | exact hQ _ _ _ _ h
  | exit id => intro Q Q' hQ F L N h; exact hQ _ _ _ _ h
  | ret => intro Q Q' hQ F L N h; exact hQ _ _ _ _ h
  | rangeFunc f params x y _ _ => intro Q Q' hQ F L N h; exact h.elim
  | scope c _ => intro Q Q' hQ F L N h; exact h.elim
  | label l => intro Q Q' hQ F L N h; exact h.elim
  | goto l => intro Q Q' hQ F L N h; exact h.elim
  | refuse s => intro Q Q' hQ F L N h; exact h.elim
def Frm.ok (F : Frm) : Prop := ∀ t, (F.at t).ok
theorem svC_ok (v : Value) : (svC v).ok := by
  unfold svC
  split
  · split <;> trivial
  · split <;> trivial
  · unfold svK; split <;> trivial
theorem evalS_ok {n : Nat} {F : Frm} (h : F.ok) (x : Operand) : (evalS n F x).ok := by
  cases x with
  | tmp t =>
    show (match Nat.blt t n with | true => F.at t | false => SV.any).ok
    split
    · exact h t
    · trivial
  | const v => exact svC_ok v
  | func f => trivial
  | global g => trivial
theorem Frm.ok_cons {F : Frm} (h : F.ok) {d : Nat} {v : SV} (hv : v.ok) : Frm.ok ((d, v) :: F) := by
  intro t
  rw [Frm.at_cons]
  split
  · exact hv
  · exact h t
def putS (n : Nat) (F : Frm) (d : Option Nat) (r : SV) : Frm := match d with
  | none => F
  | some d => (match Nat.blt d n with | true => (d, r) :: F | false => F)
theorem blt_iff (a b : Nat) : Nat.blt a b = true ↔ a < b := by
  unfold Nat.blt
  constructor
  · intro h; exact Nat.le_of_ble_eq_true h
  · intro h; exact Nat.ble_eq_true_of_le h
theorem blt_false {a b : Nat} (h : Nat.blt a b = false) : ¬ a < b := fun hh => by rw [(blt_iff a b).2 hh] at h; cases h
theorem putS_av {n : Nat} {F : Frm} {d : Option Nat} {r : SV} : putA (F.av n) d r.av = (putS n F d r).av n := by
  cases d with
  | none => rfl
  | some d =>
    unfold putS
    dsimp only
    split
    · rename_i h; exact Frm.av_put ((blt_iff _ _).1 h)
    · rename_i h
      unfold putA
      dsimp only
      rw [List.set_eq_of_length_le (by rw [Frm.av_length]; exact Nat.le_of_not_lt (blt_false h))]
def Pre (S : Nat → Prop) (F F' : Frm) : Prop := ∃ pre : Frm, F' = pre ++ F ∧ ∀ q ∈ pre, S q.1
def PreL (L L' : SSto) : Prop := ∃ pre : SSto, L' = pre ++ L
theorem Pre.rfl {S : Nat → Prop} {F : Frm} : Pre S F F := ⟨[], by simp, fun q h => by cases h⟩
theorem Pre.trans {S : Nat → Prop} {F G H : Frm} (h1 : Pre S F G) (h2 : Pre S G H) : Pre S F H := by
  obtain ⟨p, rfl, hp⟩ := h1
  obtain ⟨q, rfl, hq⟩ := h2
  exact ⟨q ++ p, by simp, fun r hr => by rcases List.mem_append.1 hr with h | h; exact hq r h; exact hp r h⟩
theorem Pre.mono {S T : Nat → Prop} {F G : Frm} (h1 : Pre S F G) (h : ∀ d, S d → T d) : Pre T F G := by
  obtain ⟨p, e, hp⟩ := h1
  exact ⟨p, e, fun q hq => h _ (hp q hq)⟩
theorem PreL.rfl {L : SSto} : PreL L L := ⟨[], by simp⟩
theorem PreL.trans {L M O : SSto} (h1 : PreL L M) (h2 : PreL M O) : PreL L O := by
  obtain ⟨p, rfl⟩ := h1
  obtain ⟨q, rfl⟩ := h2
  exact ⟨q ++ p, by simp⟩
theorem putS_pre {n : Nat} {F : Frm} {d : Option Nat} {r : SV} {S : Nat → Prop} (h : ∀ t, d = some t → S t) : Pre S F (putS n F d r) := by
  cases d with
  | none => exact Pre.rfl
  | some d =>
    unfold putS
    dsimp only
    split
    · exact ⟨[(d, r)], by simp, fun q hq => by simp at hq; subst hq; exact h d (by simp)⟩
    · exact Pre.rfl
theorem putS_ok {n : Nat} {F : Frm} {d : Option Nat} {r : SV} (h : F.ok) (hr : r.ok) : (putS n F d r).ok := by
  cases d with
  | none => exact h
  | some d =>
    unfold putS
    dsimp only
    split
    · exact Frm.ok_cons h hr
    · exact h
def doOp (X : Cx) (n : Nat) (raw : Bool) (N i : Nat) (o : Oper) (F : Frm) (L : SSto) (log : Feet) (k : Frm → SSto → Feet → Fm) : Fm := match sop X raw (N + i) o.op (evalS n F) L.at with
  | some (ps, r, R, W) => needs ps (k (putS n F o.dst r) (W ++ L) (log ++ [(R, W.map fun (q : Nat × Option SOb) => q.1)]))
  | none => .stuck i
def noOp (n : Nat) (o : Oper) (F : Frm) (L : SSto) (log : Feet) (k : Frm → SSto → Feet → Fm) : Fm := k (putS n F o.dst .undef) L (log ++ [([], [])])
def sops (X : Cx) (n : Nat) (raw : Nat → Bool) (N : Nat) (ds : List (Option Nat)) : List Oper → Nat → Frm → SSto → Feet → (Frm → SSto → Feet → Fm) → Fm
  | [], _, F, L, log, K => K F L log
  | o :: rest, i, F, L, log, K => match o.guard with
    | none => doOp X n (raw i) N i o F L log fun F L log => sops X n raw N ds rest (i + 1) F L log K
    | some (j, want) => (match (ds[j]?).join with
      | some d => (match Nat.blt d n, F.at d with
        | true, .lit b => (match b, want with
          | true, false => noOp n o F L log fun F L log => sops X n raw N ds rest (i + 1) F L log K
          | false, true => noOp n o F L log fun F L log => sops X n raw N ds rest (i + 1) F L log K
          | _, _ => doOp X n (raw i) N i o F L log fun F L log => sops X n raw N ds rest (i + 1) F L log K)
        | true, .undef => noOp n o F L log fun F L log => sops X n raw N ds rest (i + 1) F L log K
        | true, .prop p _ => .both
          (.imp p (match want with
            | true => doOp X n (raw i) N i o ((d, .lit true) :: F) L log fun F L log => sops X n raw N ds rest (i + 1) F L log K
            | false => noOp n o ((d, .lit true) :: F) L log fun F L log => sops X n raw N ds rest (i + 1) F L log K))
          (.imp (¬ p) (match want with
            | false => doOp X n (raw i) N i o ((d, .lit false) :: F) L log fun F L log => sops X n raw N ds rest (i + 1) F L log K
            | true => noOp n o ((d, .lit false) :: F) L log fun F L log => sops X n raw N ds rest (i + 1) F L log K))
        | true, .bool c => .both
          (.imp (c = true) (match want with
            | true => doOp X n (raw i) N i o ((d, .lit true) :: F) L log fun F L log => sops X n raw N ds rest (i + 1) F L log K
            | false => noOp n o ((d, .lit true) :: F) L log fun F L log => sops X n raw N ds rest (i + 1) F L log K))
          (.imp (c = false) (match want with
            | false => doOp X n (raw i) N i o ((d, .lit false) :: F) L log fun F L log => sops X n raw N ds rest (i + 1) F L log K
            | true => noOp n o ((d, .lit false) :: F) L log fun F L log => sops X n raw N ds rest (i + 1) F L log K))
        | _, _ => .stuck i)
      | none => .stuck i)
theorem Frm.av_same {n : Nat} {F : Frm} {d : Nat} {v : SV} (h : v.av = (F.at d).av) : Frm.av n ((d, v) :: F) = F.av n := by
  unfold Frm.av
  apply List.map_congr_left
  intro t _
  rw [Frm.at_cons]
  split
  · rename_i e; rw [e]; exact h
  · rfl
theorem sto_pre (W L : SSto) : W.sto ++ L.sto = SSto.sto (W ++ L) := (sto_append W L).symm
def Told (n : Nat) (S : Nat → Prop) (F : Frm) (L : SSto) (FA : List AV) (LA : Sto) (G : Frm → SSto → Prop) : Prop := ∃ F' L', FA = F'.av n ∧ LA = L'.sto ∧ F'.ok ∧ Pre S F F' ∧ PreL L L' ∧ G F' L'
theorem Told.step {n : Nat} {S : Nat → Prop} {F F1 : Frm} {L L1 : SSto} {FA : List AV} {LA : Sto} {G : Frm → SSto → Prop} (h1 : Pre S F F1) (h2 : PreL L L1) (h : Told n S F1 L1 FA LA G) : Told n S F L FA LA G := by
  obtain ⟨F', L', a, b, c, d, e, f⟩ := h
  exact ⟨F', L', a, b, c, h1.trans d, h2.trans e, f⟩
theorem sops_ok {X : Cx} (hX : X.Ok) {n : Nat} {raw : Nat → Bool} {N : Nat} {ds : List (Option Nat)} {K : Frm → SSto → Feet → Fm} :
    ∀ (l : List Oper) (i : Nat) (F : Frm) (L : SSto) (log : Feet), (∀ o ∈ l, o.dst ∈ ds) → F.ok → (sops X n raw N ds l i F L log K).holds →
      aops X.P N ds l i (F.av n) L.sto log fun FA LA log' => Told n (fun d => some d ∈ ds) F L FA LA fun F' L' => (K F' L' log').holds
  | [], i, F, L, log, _, hF, h => by
    unfold sops at h
    unfold aops
    exact ⟨F, L, rfl, rfl, hF, Pre.rfl, PreL.rfl, h⟩
  | o :: rest, i, F, L, log, hd, hF, h => by
    have hd' : ∀ o ∈ rest, o.dst ∈ ds := fun o ho => hd o (List.mem_cons_of_mem _ ho)
    have hod : ∀ t, o.dst = some t → some t ∈ ds := fun t ht => by rw [← ht]; exact hd o List.mem_cons_self
    have run : ∀ F : Frm, F.ok → (doOp X n (raw i) N i o F L log fun F L log => sops X n raw N ds rest (i + 1) F L log K).holds →
        ∃ r R W, AOp X.P (N + i) o (evalA (F.av n)) (look L.sto) (fun r' R' W' => r' = r ∧ R' = R ∧ W' = W) ∧ aops X.P N ds rest (i + 1) (putA (F.av n) o.dst r) (W ++ L.sto) (log ++ [(R, W.map (·.1))]) fun FA LA log' => Told n (fun d => some d ∈ ds) F L FA LA fun F' L' => (K F' L' log').holds := by
      intro F hF h
      unfold doOp at h
      split at h
      · rename_i ps r R W hs
        obtain ⟨h1, h2⟩ := needs_holds h
        obtain ⟨h3, h4⟩ := sop_ok hX (evalS_ok hF) hs h1
        have e1 : SE.a (evalS n F) = evalA (F.av n) := funext fun x => evalS_av x
        have e2 : Sg.a L.at = look L.sto := funext fun s => (SSto.look L s).symm
        rw [e1, e2] at h3
        refine ⟨r.av, R, W.sto, h3, ?_⟩
        have e3 : W.sto.map (·.1) = W.map fun (q : Nat × Option SOb) => q.1 := by unfold SSto.sto; rw [List.map_map]; rfl
        rw [putS_av, sto_pre, e3]
        exact aops_mono (fun _ _ _ => Told.step (putS_pre hod) ⟨W, rfl⟩) (sops_ok hX rest (i + 1) _ _ _ hd' (putS_ok hF h4) h2)
      · exact h.elim
    have skip : ∀ F : Frm, F.ok → (noOp n o F L log fun F L log => sops X n raw N ds rest (i + 1) F L log K).holds →
        aops X.P N ds rest (i + 1) (putA (F.av n) o.dst .undef) L.sto (log ++ [([], [])]) fun FA LA log' => Told n (fun d => some d ∈ ds) F L FA LA fun F' L' => (K F' L' log').holds := by
      intro F hF h
      unfold noOp at h
      have := sops_ok hX rest (i + 1) _ _ _ hd' (putS_ok (n := n) (d := o.dst) hF (show SV.ok .undef from trivial)) h
      rw [← putS_av] at this
      exact aops_mono (fun _ _ _ => Told.step (putS_pre hod) PreL.rfl) this
    unfold sops at h
    unfold aops
    split at h
    · rename_i hg; rw [hg]; exact run F hF h
    · rename_i j want hg
      rw [hg]
      dsimp only
      split at h
      case h_2 => exact h.elim
      rename_i d hdj
      have hds : some d ∈ ds := by
        cases hx : ds[j]? with
        | none => rw [hx] at hdj; cases hdj
        | some y => rw [hx] at hdj; have : y = some d := hdj; subst this; exact List.mem_of_getElem? hx
      have gd : ∀ F : Frm, d < n → gdA ds (F.av n) j = (match (F.at d).av with | .p (.bool b) => some (some b) | .undef => some none | _ => none) := by
        intro F hlt
        unfold gdA
        rw [hdj]
        dsimp only
        rw [Frm.av_getD hlt]
        rfl
      have split1 : ∀ (b : Bool), d < n → (F.at d).av = .p (.bool b) → (match want with
            | true => (match b with
              | true => doOp X n (raw i) N i o ((d, .lit true) :: F) L log fun F L log => sops X n raw N ds rest (i + 1) F L log K
              | false => noOp n o ((d, .lit false) :: F) L log fun F L log => sops X n raw N ds rest (i + 1) F L log K)
            | false => (match b with
              | true => noOp n o ((d, .lit true) :: F) L log fun F L log => sops X n raw N ds rest (i + 1) F L log K
              | false => doOp X n (raw i) N i o ((d, .lit false) :: F) L log fun F L log => sops X n raw N ds rest (i + 1) F L log K)).holds →
          (match (gdA ds (F.av n) j : Option (Option Bool)) with
            | some (some b) => if b = want then ∃ r R W, AOp X.P (N + i) o (evalA (F.av n)) (look L.sto) (fun r' R' W' => r' = r ∧ R' = R ∧ W' = W) ∧ aops X.P N ds rest (i + 1) (putA (F.av n) o.dst r) (W ++ L.sto) (log ++ [(R, W.map (·.1))]) (fun FA LA log' => Told n (fun d => some d ∈ ds) F L FA LA fun F' L' => (K F' L' log').holds)
              else aops X.P N ds rest (i + 1) (putA (F.av n) o.dst .undef) L.sto (log ++ [([], [])]) (fun FA LA log' => Told n (fun d => some d ∈ ds) F L FA LA fun F' L' => (K F' L' log').holds)
            | some none => aops X.P N ds rest (i + 1) (putA (F.av n) o.dst .undef) L.sto (log ++ [([], [])]) (fun FA LA log' => Told n (fun d => some d ∈ ds) F L FA LA fun F' L' => (K F' L' log').holds)
            | none => False) := by
        intro b hlt hb h
        rw [gd F hlt, hb]
        dsimp only
        have e0 : ∀ c, c = b → Frm.av n ((d, .lit c) :: F) = F.av n := fun c hc => Frm.av_same (by rw [hb, hc]; rfl)
        have hpre : ∀ c, Pre (fun d => some d ∈ ds) F ((d, SV.lit c) :: F) := fun c => ⟨[(d, .lit c)], rfl, fun q hq => by simp at hq; subst hq; exact hds⟩
        have up : ∀ c FA LA (G : Frm → SSto → Prop), Told n (fun d => some d ∈ ds) ((d, SV.lit c) :: F) L FA LA G → Told n (fun d => some d ∈ ds) F L FA LA G := fun c FA LA G => Told.step (hpre c) PreL.rfl
        have hok : ∀ c, Frm.ok ((d, SV.lit c) :: F) := fun c => Frm.ok_cons hF (show SV.ok (.lit c) from trivial)
        cases want <;> cases b <;> dsimp only at h
        · rw [if_pos rfl]
          have := run _ (hok false) h
          rw [e0 false rfl] at this
          obtain ⟨r, R, W, h1, h2⟩ := this
          exact ⟨r, R, W, h1, aops_mono (fun _ _ _ => up false _ _ _) h2⟩
        · rw [if_neg (by decide)]
          have := skip _ (hok true) h
          rw [e0 true rfl] at this
          exact aops_mono (fun _ _ _ => up true _ _ _) this
        · rw [if_neg (by decide)]
          have := skip _ (hok false) h
          rw [e0 false rfl] at this
          exact aops_mono (fun _ _ _ => up false _ _ _) this
        · rw [if_pos rfl]
          have := run _ (hok true) h
          rw [e0 true rfl] at this
          obtain ⟨r, R, W, h1, h2⟩ := this
          exact ⟨r, R, W, h1, aops_mono (fun _ _ _ => up true _ _ _) h2⟩
      split at h
      · rename_i b hlt hb
        have hlt := (blt_iff _ _).1 hlt
        rw [gd F hlt, hb]
        show (if b = want then _ else _)
        cases b <;> cases want <;> dsimp only at h
        · rw [if_pos rfl]; exact run F hF h
        · rw [if_neg (by decide)]; exact skip F hF h
        · rw [if_neg (by decide)]; exact skip F hF h
        · rw [if_pos rfl]; exact run F hF h
      · rename_i hlt hb
        have hlt := (blt_iff _ _).1 hlt
        rw [gd F hlt, hb]
        exact skip F hF h
      · rename_i p dec hlt hb
        obtain ⟨h1, h2⟩ := Fm.both_holds h
        have hlt := (blt_iff _ _).1 hlt
        have hav : (F.at d).av = .p (.bool (@decide p dec)) := by rw [hb]; rfl
        by_cases hp : p
        · refine split1 true hlt (by rw [hav]; simp [hp]) ?_
          have h1 := (h1 : p → _) hp
          cases want <;> exact h1
        · refine split1 false hlt (by rw [hav]; simp [hp]) ?_
          have h2 := (h2 : ¬ p → _) hp
          cases want <;> exact h2
      · rename_i c hlt hb
        obtain ⟨h1, h2⟩ := Fm.both_holds h
        have hlt := (blt_iff _ _).1 hlt
        have hav : (F.at d).av = .p (.bool c) := by rw [hb]; rfl
        cases c with
        | true =>
          refine split1 true hlt hav ?_
          have h1 := (h1 : (true = true) → _) rfl
          cases want <;> exact h1
        | false =>
          refine split1 false hlt hav ?_
          have h2 := (h2 : (false = false) → _) rfl
          cases want <;> exact h2
      · exact h.elim
abbrev Rf := Nat → Option (Option Nat)
mutual
def relV (m : Rf) : AV → AV → Prop
  | .any, _ => True
  | .p x, y => y = .p x
  | .nil, y => y = .nil
  | .undef, y => y = .undef
  | .ptr s off, y => ∃ o, m s = some (some o) ∧ y = .ptr o off
  | .own s o n, y => (∃ s', m s = some (some s') ∧ y = .own s' o n) ∨ (m s = some none ∧ y = .nil ∧ o = 0 ∧ n = 0)
  | .agg l, y => ∃ r, (y = .agg r ∨ ∃ q : List PV, y = .p (.agg q) ∧ r = q.map .p) ∧ relVs m l r
  | .tup l, y => ∃ r, (y = .tup r ∨ ∃ q : List PV, y = .p (.tup q) ∧ r = q.map .p) ∧ relVs m l r
  | .fn f a b, y => ∃ a2 b2, y = .fn f a2 b2 ∧ relVs m a a2 ∧ relVs m b b2
def relVs (m : Rf) : List AV → List AV → Prop
  | [], r => r = []
  | x :: l, r => ∃ y r', r = y :: r' ∧ relV m x y ∧ relVs m l r'
end
def renR (m : Rf) (ρ : Ren) : Ren := fun s => match m s with
  | some (some o) => ρ o
  | some none => some (none, 0)
  | none => none
mutual
theorem relV_rep {m : Rf} {ρ : Ren} {C C' : CellP} (hC : ∀ b o v, C b o v → C' b o v) : ∀ (x y : AV) (v : Value), relV m x y → RepA ρ C y v → RepA (renR m ρ) C' x v
  | .any, y, v, _, _ => by unfold RepA; trivial
  | .p x, y, v, h, hv => by unfold relV at h; subst h; unfold RepA at *; exact RepV.mono hC _ v hv
  | .nil, y, v, h, hv => by unfold relV at h; subst h; unfold RepA at *; exact hv
  | .undef, y, v, h, hv => by unfold relV at h; subst h; unfold RepA at *; exact hv
  | .ptr s off, y, v, h, hv => by
    unfold relV at h
    obtain ⟨o, h1, rfl⟩ := h
    unfold RepA at *
    obtain ⟨b, c, h2, h3⟩ := hv
    exact ⟨b, c, by unfold renR; rw [h1]; exact h2, h3⟩
  | .own s o n, y, v, h, hv => by
    unfold relV at h
    rcases h with ⟨s', h1, rfl⟩ | ⟨h1, rfl, rfl, rfl⟩
    · unfold RepA at *
      obtain ⟨q, c, h2, h3⟩ := hv
      exact ⟨q, c, by unfold renR; rw [h1]; exact h2, h3⟩
    · unfold RepA at *
      exact ⟨none, 0, by unfold renR; rw [h1], .inl ⟨rfl, hv, rfl, rfl⟩⟩
  | .agg l, y, v, h, hv => by
    unfold relV at h
    obtain ⟨r, hy, hr⟩ := h
    have : ∃ vs : List Value, v = .agg vs.toArray ∧ RepAL ρ C r vs ∧ Ones vs := by
      rcases hy with rfl | ⟨q, rfl, rfl⟩
      · unfold RepA at hv; exact hv
      · unfold RepA RepV at hv
        obtain ⟨vs, h1, h2, h3⟩ := hv
        exact ⟨vs, h1, h2.toA, h3⟩
    obtain ⟨vs, h1, h2, h3⟩ := this
    unfold RepA
    exact ⟨vs, h1, relVs_rep hC l r vs hr h2, h3⟩
  | .tup l, y, v, h, hv => by
    unfold relV at h
    obtain ⟨r, hy, hr⟩ := h
    have : ∃ vs : List Value, v = .tuple vs.toArray ∧ RepAL ρ C r vs := by
      rcases hy with rfl | ⟨q, rfl, rfl⟩
      · unfold RepA at hv; exact hv
      · unfold RepA RepV at hv
        obtain ⟨vs, h1, h2⟩ := hv
        exact ⟨vs, h1, h2.toA⟩
    obtain ⟨vs, h1, h2⟩ := this
    unfold RepA
    exact ⟨vs, h1, relVs_rep hC l r vs hr h2⟩
  | .fn f a b, y, v, h, hv => by
    unfold relV at h
    obtain ⟨a2, b2, rfl, h1, h2⟩ := h
    unfold RepA at *
    obtain ⟨vs1, vs2, h3, h4, h5⟩ := hv
    exact ⟨vs1, vs2, h3, relVs_rep hC a a2 vs1 h1 h4, relVs_rep hC b b2 vs2 h2 h5⟩
theorem relVs_rep {m : Rf} {ρ : Ren} {C C' : CellP} (hC : ∀ b o v, C b o v → C' b o v) : ∀ (l r : List AV) (vs : List Value), relVs m l r → RepAL ρ C r vs → RepAL (renR m ρ) C' l vs
  | [], r, vs, h, hv => by unfold relVs at h; subst h; unfold RepAL at *; exact hv
  | x :: l, r, vs, h, hv => by
    unfold relVs at h
    obtain ⟨y, r', rfl, h1, h2⟩ := h
    unfold RepAL at *
    obtain ⟨v, vs', rfl, h3, h4⟩ := hv
    exact ⟨v, vs', rfl, relV_rep hC x y v h1 h3, relVs_rep hC l r' vs' h2 h4⟩
end
theorem relVs_get {m : Rf} : ∀ {l r : List AV}, relVs m l r → l.length = r.length ∧ ∀ (i : Nat) x, l[i]? = some x → ∃ y, r[i]? = some y ∧ relV m x y
  | [], r, h => by unfold relVs at h; subst h; exact ⟨rfl, fun i x h => by simp at h⟩
  | x :: l, r, h => by
    unfold relVs at h
    obtain ⟨y, r', rfl, h1, h2⟩ := h
    obtain ⟨h3, h4⟩ := relVs_get h2
    refine ⟨by simp [h3], fun i z hi => ?_⟩
    cases i with
    | zero => simp at hi; subst hi; exact ⟨y, rfl, h1⟩
    | succ i => simpa using h4 i z (by simpa using hi)
def relOb (m : Rf) (ob' ob : Ob) : Prop := ob'.ty = ob.ty ∧ ob'.esz = ob.esz ∧ relVs m ob'.cells ob.cells
theorem weak_rf {F F' : List AV} {L L' : Sto} {N N' : Nat} (m : Rf) (hlt : ∀ s x, m s = some x → s < N') (hinj : ∀ s s' o, m s = some (some o) → m s' = some (some o) → s = s')
    (hlen : F'.length = F.length) (hF : ∀ t, t < F.length → relV m (F'.getD t .any) (F.getD t .any))
    (hL : ∀ s ob', look L' s = some ob' → match m s with | some (some o) => ∃ ob, look L o = some ob ∧ relOb m ob' ob | some none => ob'.esz ≠ 0 ∧ ob'.cells = [] | none => False) : Weak F L N F' L' N' := by
  intro C0 B wI a w ⟨⟨ρ, s1, s2, s3⟩, s4, s5, s6, s7⟩
  have hCC : ∀ b o v, CellsOf C0 B w ρ (look L) b o v → CellsOf C0 B w (renR m ρ) (look L') b o v := by
    intro b o v ⟨e1, e2, e3⟩
    refine ⟨e1, fun s c hs => ?_, e3⟩
    cases hl : look L' s with
    | none => rfl
    | some ob' =>
      have := hL s ob' hl
      unfold renR at hs
      split at hs
      · rename_i o' ho
        rw [ho] at this
        obtain ⟨ob, h1, _⟩ := this
        rw [e2 o' c hs] at h1; cases h1
      · cases hs
      · cases hs
  refine ⟨⟨renR m ρ, ⟨?_, ?_⟩, ?_, ?_⟩, s4, s5, by rw [s6, hlen], s7⟩
  · intro s ob' hl
    have := hL s ob' hl
    split at this
    · rename_i o ho
      obtain ⟨ob, h1, h2, h3, h4⟩ := this
      obtain ⟨q, c, k1, k2⟩ := s1.ob o ob h1
      refine ⟨q, c, by unfold renR; rw [ho]; exact k1, ?_⟩
      obtain ⟨g1, g2⟩ := relVs_get h4
      rcases k2 with ⟨k2, k3, k4, k5⟩ | ⟨b, arr, k2, k3, k4⟩
      · exact .inl ⟨k2, by rw [h3]; exact k3, List.length_eq_zero_iff.1 (by rw [g1, k4]; rfl), k5⟩
      · refine .inr ⟨b, arr, k2, k3, ⟨by rw [h2]; exact k4.blk, fun hz => by rw [g1]; exact k4.box (by rw [← h3]; exact hz), fun hz => by rw [h3, g1]; exact k4.row (by rw [← h3]; exact hz), ?_⟩⟩
        intro i x' hi
        obtain ⟨x, hx, hr⟩ := g2 i x' hi
        obtain ⟨v, g3, g4, g5⟩ := k4.cells i x hx
        exact ⟨v, g3, g4, relV_rep hCC _ _ v hr g5⟩
    · rename_i ho
      exact ⟨none, 0, by unfold renR; rw [ho], .inl ⟨rfl, this.1, this.2, rfl⟩⟩
    · exact this.elim
  · intro s s' o o' b c c' h1 h2 h3 h4
    have g1 := hL s o h1
    have g2 := hL s' o' h2
    unfold renR at h3 h4
    split at h3
    · rename_i x hx
      rw [hx] at g1
      obtain ⟨ob, k1, _⟩ := g1
      split at h4
      · rename_i x' hx'
        rw [hx'] at g2
        obtain ⟨ob', k2, _⟩ := g2
        have := s1.inj x x' ob ob' b c c' k1 k2 h3 h4
        subst this
        exact hinj _ _ _ hx hx'
      · cases h4
      · cases h4
    · cases h3
    · cases h3
  · intro s hs
    cases hr : m s with
    | none => unfold renR; rw [hr]
    | some x => have := hlt s x hr; omega
  · intro t
    by_cases ht : t < F.length
    · exact relV_rep hCC _ _ _ (hF t ht) (s3 t)
    · rw [List.getD_eq_getElem?_getD, List.getElem?_eq_none (by omega)]
      show RepA _ _ .any _
      unfold RepA
      trivial
end Go.Proofs.YtdaeofhdgabhjaaGreat
namespace Go.Proofs.YtdaeofhdgabhjaaGreat
open Go.RowKit
abbrev Rm := List (Nat × Option Nat)
def lookR : Rm → Nat → Option (Option Nat)
  | [], _ => none
  | (k, x) :: m, s => match Nat.beq s k with | true => some x | false => lookR m s
def eqvs (f : SV → SV → Option (List Prop × Rm)) : List SV → List SV → Option (List Prop × Rm)
  | [], [] => some ([], [])
  | x :: l, y :: r => (match f x y, eqvs f l r with
    | some (p, m), some (q, k) => some (p ++ q, m ++ k)
    | _, _ => none)
  | _, _ => none
def eqv0 : SV → SV → Option (List Prop × Rm)
  | .any, _ => some ([], [])
  | .undef, .undef => some ([], [])
  | .nil, .nil => some ([], [])
  | .int k a, .int k' b => (match decEq k k' with | .isTrue _ => some ([b = a], []) | .isFalse _ => none)
  | .bool a, .bool b => some ([b = a], [])
  | .bool a, .lit b => some ([b = a], [])
  | .bool a, .prop p d => some ([@decide p d = a], [])
  | .lit a, .lit b => some ([b = a], [])
  | .lit a, .bool b => some ([b = a], [])
  | .lit a, .prop p d => some ([@decide p d = a], [])
  | .prop p _, .prop q _ => some ([q ↔ p], [])
  | .prop p d, .bool b => some ([b = @decide p d], [])
  | .prop p d, .lit b => some ([b = @decide p d], [])
  | .str a, .str b => some ([b = a], [])
  | .lst t l, .lst t' l' => (match decEq t' t with | .isTrue h => some ([(h ▸ l' : List t.ty) = l], []) | .isFalse _ => none)
  | .lst _ l, .sl 0 [] => some ([l = []], [])
  | .lst t l, .sl n cs => (match t.decs n cs with | some l' => some ([l' = l], []) | none => none)
  | .ptr s off, .ptr s' off' => (match Nat.beq off off' with | true => some ([], [(s, some s')]) | false => none)
  | .own s t n, .own s' t' n' => (match decEq t' t with | .isTrue _ => some ([n' = n], [(s, some s')]) | .isFalse _ => none)
  | .own s _ n, .ownx s' n' => some ([n' = n], [(s, some s')])
  | .own s _ n, .nil => some ([n = 0], [(s, none)])
  | .ownx s n, .ownx s' n' => (match Nat.beq n n' with | true => some ([], [(s, some s')]) | false => none)
  | _, _ => none
def eqv : Nat → SV → SV → Option (List Prop × Rm)
  | d + 1, .agg l, .agg r => eqvs (eqv d) l r
  | d + 1, .tup l, .tup r => eqvs (eqv d) l r
  | d + 1, .fn f a b, .fn f' a' b' => (match Nat.beq f f', eqvs (eqv d) a a', eqvs (eqv d) b b' with
    | true, some (p, m), some (q, k) => some (p ++ q, m ++ k)
    | _, _, _ => none)
  | _, x, y => eqv0 x y
def AgreeR (m : Rf) (r : Rm) : Prop := ∀ q ∈ r, m q.1 = some q.2
theorem AgreeR.left {m : Rf} {r k : Rm} (h : AgreeR m (r ++ k)) : AgreeR m r := fun q hq => h q (List.mem_append_left _ hq)
theorem AgreeR.right {m : Rf} {r k : Rm} (h : AgreeR m (r ++ k)) : AgreeR m k := fun q hq => h q (List.mem_append_right _ hq)
theorem relVs_agg {m : Rf} {l r : List AV} (h : relVs m l r) : relV m (mkAgg l) (mkAgg r) := by
  unfold mkAgg
  cases hl : allP l with
  | some q =>
    have e := allP_map hl
    subst e
    have : ∀ (q : List PV) (r : List AV), relVs m (q.map .p) r → r = q.map .p := by
      intro q
      induction q with
      | nil => intro r h; unfold relVs at h; exact h
      | cons x q ih => intro r h; rw [List.map_cons] at h; unfold relVs at h; obtain ⟨y, r', rfl, h1, h2⟩ := h; unfold relV at h1; rw [h1, ih r' h2]; rfl
    rw [this q r h, allP_mapp]
    dsimp only
    unfold relV; rfl
  | none =>
    dsimp only
    unfold relV
    cases hr : allP r with
    | some q => exact ⟨r, .inr ⟨q, rfl, allP_map hr⟩, h⟩
    | none => exact ⟨r, .inl rfl, h⟩
theorem relVs_tup {m : Rf} {l r : List AV} (h : relVs m l r) : relV m (mkTup l) (mkTup r) := by
  unfold mkTup
  cases hl : allP l with
  | some q =>
    have e := allP_map hl
    subst e
    have : ∀ (q : List PV) (r : List AV), relVs m (q.map .p) r → r = q.map .p := by
      intro q
      induction q with
      | nil => intro r h; unfold relVs at h; exact h
      | cons x q ih => intro r h; rw [List.map_cons] at h; unfold relVs at h; obtain ⟨y, r', rfl, h1, h2⟩ := h; unfold relV at h1; rw [h1, ih r' h2]; rfl
    rw [this q r h, allP_mapp]
    dsimp only
    unfold relV; rfl
  | none =>
    dsimp only
    unfold relV
    cases hr : allP r with
    | some q => exact ⟨r, .inr ⟨q, rfl, allP_map hr⟩, h⟩
    | none => exact ⟨r, .inl rfl, h⟩
theorem eqvs_rel {f : SV → SV → Option (List Prop × Rm)} {m : Rf} (hf : ∀ x y ps r, f x y = some (ps, r) → (∀ p ∈ ps, p) → AgreeR m r → relV m x.av y.av) :
    ∀ {l k : List SV} {ps : List Prop} {r : Rm}, eqvs f l k = some (ps, r) → (∀ p ∈ ps, p) → AgreeR m r → relVs m (avs l) (avs k)
  | [], [], ps, r, _, _, _ => by simp only [avs]; unfold relVs; rfl
  | [], _ :: _, ps, r, h, _, _ => by cases h
  | _ :: _, [], ps, r, h, _, _ => by cases h
  | x :: l, y :: k, ps, r, h, hp, hm => by
    unfold eqvs at h
    split at h <;> cases h
    rename_i p m1 q m2 h1 h2
    rw [avs, avs]
    unfold relVs
    exact ⟨_, _, rfl, hf x y p m1 h1 (fun a ha => hp a (List.mem_append_left _ ha)) hm.left, eqvs_rel hf h2 (fun a ha => hp a (List.mem_append_right _ ha)) hm.right⟩
theorem relV_p {m : Rf} {x : PV} {y : AV} (h : y = .p x) : relV m (.p x) y := by unfold relV; exact h
theorem eqv0_rel {m : Rf} {x y : SV} {ps : List Prop} {r : Rm} (h : eqv0 x y = some (ps, r)) (hp : ∀ p ∈ ps, p) (hm : AgreeR m r) : relV m x.av y.av := by
  unfold eqv0 at h
  split at h
  · simp only [SV.av]; unfold relV; trivial
  · simp only [SV.av]; unfold relV; rfl
  · simp only [SV.av]; unfold relV; rfl
  · split at h <;> cases h
    rename_i e _
    subst e
    refine relV_p ?_
    rw [← hp _ (List.mem_singleton.2 rfl)]; rfl
  · cases h; refine relV_p ?_; rw [← hp _ (List.mem_singleton.2 rfl)]; rfl
  · cases h; refine relV_p ?_; rw [← hp _ (List.mem_singleton.2 rfl)]; rfl
  · cases h; refine relV_p ?_; rw [← hp _ (List.mem_singleton.2 rfl)]; rfl
  · cases h; refine relV_p ?_; rw [← hp _ (List.mem_singleton.2 rfl)]; rfl
  · cases h; refine relV_p ?_; rw [← hp _ (List.mem_singleton.2 rfl)]; rfl
  · cases h; refine relV_p ?_; rw [← hp _ (List.mem_singleton.2 rfl)]; rfl
  · rename_i p d q e
    cases h
    refine relV_p ?_
    have hh : q ↔ p := hp _ (List.mem_singleton.2 rfl)
    show AV.p (.bool (decide q)) = AV.p (.bool (decide p))
    congr 2
    exact decide_eq_decide.2 hh
  · cases h; refine relV_p ?_; rw [← hp _ (List.mem_singleton.2 rfl)]; rfl
  · cases h; refine relV_p ?_; rw [← hp _ (List.mem_singleton.2 rfl)]; rfl
  · cases h; refine relV_p ?_; rw [← hp _ (List.mem_singleton.2 rfl)]; rfl
  · rename_i t l t' l'
    split at h <;> cases h
    rename_i e _
    subst e
    have : l' = l := hp _ (List.mem_singleton.2 rfl)
    subst this
    exact relV_p rfl
  · cases h
    rename_i t l
    have : l = [] := hp _ (List.mem_singleton.2 rfl)
    subst this
    exact relV_p rfl
  · rename_i t l n cs _
    split at h <;> cases h
    rename_i l' hl
    have : l' = l := hp _ (List.mem_singleton.2 rfl)
    subst this
    obtain ⟨e1, e2⟩ := LT.decs_av hl
    refine relV_p ?_
    show (match allP (avs cs) with | some q => AV.p (.sl n q) | none => .any) = _
    rw [e2, allP_mapp, e1]
  · rename_i s off s' off'
    split at h <;> cases h
    rename_i e
    simp only [SV.av]; unfold relV
    exact ⟨s', hm _ (List.mem_singleton.2 rfl), by rw [Nat.eq_of_beq_eq_true e]⟩
  · rename_i s t n s' t' n'
    split at h <;> cases h
    have : n' = n := hp _ (List.mem_singleton.2 rfl)
    simp only [SV.av]; unfold relV
    exact .inl ⟨s', hm _ (List.mem_singleton.2 rfl), by rw [this]⟩
  · cases h
    rename_i s t n s' n'
    have : n' = n := hp _ (List.mem_singleton.2 rfl)
    simp only [SV.av]; unfold relV
    exact .inl ⟨s', hm _ (List.mem_singleton.2 rfl), by rw [this]⟩
  · cases h
    rename_i s t n
    have : n = 0 := hp _ (List.mem_singleton.2 rfl)
    simp only [SV.av]; unfold relV
    exact .inr ⟨hm _ (List.mem_singleton.2 rfl), rfl, rfl, this⟩
  · rename_i s n s' n'
    split at h <;> cases h
    rename_i e
    simp only [SV.av]; unfold relV
    exact .inl ⟨s', hm _ (List.mem_singleton.2 rfl), by rw [Nat.eq_of_beq_eq_true e]⟩
  · cases h
theorem eqv_rel {m : Rf} : ∀ (d : Nat) (x y : SV) (ps : List Prop) (r : Rm), eqv d x y = some (ps, r) → (∀ p ∈ ps, p) → AgreeR m r → relV m x.av y.av := by
  intro d
  induction d with
  | zero =>
    intro x y ps r h hp hm
    refine eqv0_rel (ps := ps) (r := r) ?_ hp hm
    exact h
  | succ d ih =>
    intro x y ps r h hp hm
    unfold eqv at h
    split at h
    · rename_i d' l k e; cases e; exact relVs_agg (eqvs_rel ih h hp hm)
    · rename_i d' l k e; cases e; exact relVs_tup (eqvs_rel ih h hp hm)
    · rename_i d' f a b f' a' b' e
      cases e
      split at h <;> cases h
      rename_i p m1 q m2 e h1 h2
      show relV m (.fn (.func f) (avs a) (avs b)) (.fn (.func f') (avs a') (avs b'))
      unfold relV
      exact ⟨_, _, by rw [Nat.eq_of_beq_eq_true e], eqvs_rel ih h1 (fun a ha => hp a (List.mem_append_left _ ha)) hm.left, eqvs_rel ih h2 (fun a ha => hp a (List.mem_append_right _ ha)) hm.right⟩
    · exact eqv0_rel h hp hm
mutual
def SV.sites : SV → List Nat
  | .agg l => sitesL l
  | .tup l => sitesL l
  | .fn _ a b => sitesL a ++ sitesL b
  | .ptr s _ => [s]
  | .pte s _ _ _ => [s]
  | .own s _ _ => [s]
  | .owns s _ _ _ => [s]
  | .ownx s _ => [s]
  | _ => []
def sitesL : List SV → List Nat
  | [] => []
  | x :: l => x.sites ++ sitesL l
end
mutual
theorem sites_rel {m : Rf} : ∀ (v : SV), (∀ s ∈ v.sites, m s = some (some s)) → relV m v.av v.av
  | .any, _ => by simp only [SV.av]; unfold relV; trivial
  | .undef, _ => by simp only [SV.av]; unfold relV; rfl
  | .nil, _ => by simp only [SV.av]; unfold relV; rfl
  | .int _ _, _ => relV_p rfl
  | .bool _, _ => relV_p rfl
  | .lit _, _ => relV_p rfl
  | .prop _ _, _ => relV_p rfl
  | .str _, _ => relV_p rfl
  | .lst _ _, _ => relV_p rfl
  | .pe _ _ _ _, _ => relV_p rfl
  | .clo1 _ _ _ _, _ => relV_p rfl
  | .clo2 _ _ _ _, _ => relV_p rfl
  | .ptb _ _ _, _ => relV_p rfl
  | .sl n cs, _ => by
    simp only [SV.av]
    split
    · exact relV_p rfl
    · unfold relV; trivial
  | .pro cs off, _ => by
    simp only [SV.av]
    split
    · exact relV_p rfl
    · unfold relV; trivial
  | .fnp f a b, _ => by
    simp only [SV.av]
    split
    · exact relV_p rfl
    · unfold relV; trivial
  | .agg l, h => by simp only [SV.av]; exact relVs_agg (sitesL_rel l h)
  | .tup l, h => by simp only [SV.av]; exact relVs_tup (sitesL_rel l h)
  | .fn f a b, h => by
    simp only [SV.av]; unfold relV
    exact ⟨_, _, rfl, sitesL_rel a (fun s hs => h s (by simp only [SV.sites]; exact List.mem_append_left _ hs)), sitesL_rel b (fun s hs => h s (by simp only [SV.sites]; exact List.mem_append_right _ hs))⟩
  | .ptr s off, h => by simp only [SV.av]; unfold relV; exact ⟨s, h s (by simp [SV.sites]), rfl⟩
  | .pte s t i off, h => by simp only [SV.av]; unfold relV; exact ⟨s, h s (by simp [SV.sites]), rfl⟩
  | .own s t n, h => by simp only [SV.av]; unfold relV; exact .inl ⟨s, h s (by simp [SV.sites]), rfl⟩
  | .owns s t o n, h => by simp only [SV.av]; unfold relV; exact .inl ⟨s, h s (by simp [SV.sites]), rfl⟩
  | .ownx s n, h => by simp only [SV.av]; unfold relV; exact .inl ⟨s, h s (by simp [SV.sites]), rfl⟩
theorem sitesL_rel {m : Rf} : ∀ (l : List SV), (∀ s ∈ sitesL l, m s = some (some s)) → relVs m (avs l) (avs l)
  | [], _ => by simp only [avs]; unfold relVs; rfl
  | x :: l, h => by
    simp only [avs]; unfold relVs
    exact ⟨_, _, rfl, sites_rel x (fun s hs => h s (by simp only [sitesL]; exact List.mem_append_left _ hs)), sitesL_rel l (fun s hs => h s (by simp only [sitesL]; exact List.mem_append_right _ hs))⟩
end
theorem relVs_map (m : Rf) : ∀ q : List PV, relVs m (q.map .p) (q.map .p)
  | [] => by simp only [List.map_nil]; unfold relVs; rfl
  | x :: q => by simp only [List.map_cons]; unfold relVs; exact ⟨_, _, rfl, relV_p rfl, relVs_map m q⟩
def SOb.sites : SOb → List Nat
  | .box _ cs => sitesL cs
  | .arr _ _ cs => sitesL cs
  | .row .. => []
theorem obSites_rel {m : Rf} (o : SOb) (h : ∀ s ∈ o.sites, m s = some (some s)) : relOb m o.ob o.ob := by
  cases o with
  | box ty cs => exact ⟨rfl, rfl, sitesL_rel cs h⟩
  | arr ty ez cs => exact ⟨rfl, rfl, sitesL_rel cs h⟩
  | row ty t l => exact ⟨rfl, rfl, relVs_map m _⟩
def eqvOb : SOb → SOb → Option (List Prop × Rm)
  | .box ty cs, .box ty' cs' => (match Nat.beq ty ty' with | true => eqvs (eqv 3) cs cs' | false => none)
  | .arr ty ez cs, .arr ty' ez' cs' => (match Nat.beq ty ty', Nat.beq ez ez' with | true, true => eqvs (eqv 3) cs cs' | _, _ => none)
  | .row ty t l, .row ty' t' l' => (match Nat.beq ty ty', decEq t' t with | true, .isTrue h => some ([(h ▸ l' : List t.ty) = l], []) | _, _ => none)
  | .row ty t l, .arr ty' ez cs => (match Nat.beq ty ty', Nat.beq ez t.w, t.decs (cs.length / t.w) cs with | true, true, some l' => some ([l' = l], []) | _, _, _ => none)
  | _, _ => none
theorem eqvOb_rel {m : Rf} {x y : SOb} {ps : List Prop} {r : Rm} (h : eqvOb x y = some (ps, r)) (hp : ∀ p ∈ ps, p) (hm : AgreeR m r) : relOb m x.ob y.ob := by
  unfold eqvOb at h
  split at h
  · split at h
    · rename_i e
      exact ⟨Nat.eq_of_beq_eq_true e, rfl, eqvs_rel (eqv_rel 3) h hp hm⟩
    · cases h
  · split at h
    · rename_i e1 e2
      exact ⟨Nat.eq_of_beq_eq_true e1, Nat.eq_of_beq_eq_true e2, eqvs_rel (eqv_rel 3) h hp hm⟩
    · cases h
  · split at h <;> cases h
    rename_i e2 e1 _
    subst e2
    have := hp _ (List.mem_singleton.2 rfl)
    dsimp only at this
    subst this
    exact ⟨Nat.eq_of_beq_eq_true e1, rfl, relVs_map m _⟩
  · split at h <;> cases h
    rename_i l' e1 e2 e3
    have := hp _ (List.mem_singleton.2 rfl)
    subst this
    obtain ⟨_, e4⟩ := LT.decs_av e3
    refine ⟨Nat.eq_of_beq_eq_true e1, (Nat.eq_of_beq_eq_true e2).symm, ?_⟩
    show relVs m ((LT.enc _ l').map .p) (avs _)
    rw [e4]
    exact relVs_map m _
  · cases h
end Go.Proofs.YtdaeofhdgabhjaaGreat
namespace Go.Proofs.YtdaeofhdgabhjaaGreat
open Go.RowKit
def mem (l : List Nat) (s : Nat) : Bool := match l with
  | [] => false
  | x :: l => (match Nat.beq s x with | true => true | false => mem l s)
theorem mem_iff (s : Nat) : ∀ l : List Nat, mem l s = true ↔ s ∈ l
  | [] => by simp [mem]
  | x :: l => by
    unfold mem
    cases h : Nat.beq s x with
    | true => simp [Nat.eq_of_beq_eq_true h]
    | false => simp [Nat.ne_of_beq_eq_false h, mem_iff s l]
def allB {α : Type} (p : α → Bool) : List α → Bool
  | [] => true
  | x :: l => (match p x with | true => allB p l | false => false)
theorem allB_iff {α : Type} {p : α → Bool} : ∀ {l : List α}, allB p l = true → ∀ x ∈ l, p x = true
  | [], _, x, hx => by cases hx
  | y :: l, h, x, hx => by
    unfold allB at h
    cases hy : p y with
    | false => rw [hy] at h; cases h
    | true =>
      rw [hy] at h
      rcases List.mem_cons.1 hx with rfl | hx
      · exact hy
      · exact allB_iff h x hx
def stays (rk : List Nat) (N0 : Nat) (s : Nat) : Bool := match Nat.blt s N0, mem rk s with
  | true, false => true
  | _, _ => false
def badF (F : Frm) (rk : List Nat) (N0 : Nat) : Frm → List Nat
  | [] => []
  | (d, v) :: r => (match allB (stays rk N0) v.sites with
    | true => badF F rk N0 r
    | false => (match allB (stays rk N0) (F.at d).sites with
      | true => badF F rk N0 r
      | false => d :: badF F rk N0 r))
def headF (F : Frm) (upd : Frm) (hav : List Nat) : Frm := upd ++ (hav.map fun d => (d, SV.any)) ++ F
def headL (L : SSto) (obs : List (Nat × SOb)) : SSto := (obs.map fun q => (q.1, some q.2)) ++ L
def keysO (obs : List (Nat × SOb)) : List Nat := obs.map fun q => q.1
def keptL (L : SSto) (keys rk : List Nat) (N0 : Nat) : Bool := allB (fun (q : Nat × Option SOb) => match mem keys q.1 with
  | true => true
  | false => (match L.at q.1 with
    | none => true
    | some ob => (match stays rk N0 q.1 with | true => allB (stays rk N0) ob.sites | false => false))) L
def eqvF (n : Nat) (F' : Frm) : Frm → Option (List Prop × Rm)
  | [] => some ([], [])
  | (d, v) :: r => (match Nat.blt d n, v.ape, eqv 3 v (F'.at d), eqvF n F' r with
    | true, false, some (p, m), some (q, k) => some (p ++ q, m ++ k)
    | _, _, _, _ => none)
def eqvL (L' : SSto) (rk : List Nat) : List (Nat × SOb) → Rm → Option (List Prop × Rm)
  | [], mm => some ([], mm)
  | (s, ob) :: r, mm => (match (match mem rk s with | true => lookR mm s | false => some (some s)) with
    | none => none
    | some none => (match ob with
      | .row _ _ l => (match eqvL L' rk r (mm ++ [(s, none)]) with | some (q, k) => some ((l = []) :: q, k) | none => none)
      | _ => none)
    | some (some o) => (match L'.at o with
      | none => none
      | some ob' => (match eqvOb ob ob' with
        | none => none
        | some (p, m2) => (match eqvL L' rk r (mm ++ (s, some o) :: m2) with | some (q, k) => some (p ++ q, k) | none => none))))
def eqO : Option Nat → Option Nat → Bool
  | none, none => true
  | some a, some b => Nat.beq a b
  | _, _ => false
theorem eqO_eq {a b : Option Nat} (h : eqO a b = true) : a = b := by
  cases a <;> cases b <;> first | rfl | (cases h; done) | (rw [Nat.eq_of_beq_eq_true h])
def isO : Option (Option Nat) → Option Nat → Bool
  | some a, b => eqO a b
  | none, _ => false
def okM (rk : List Nat) (N0 N1 : Nat) (mm : Rm) : Bool := allB (fun (q : Nat × Option Nat) => match isO (lookR mm q.1) q.2, mem rk q.1 with
  | true, true => (match Nat.blt q.1 N1, q.2 with
    | true, none => true
    | true, some o => (match (match Nat.blt o N0 with | false => true | true => mem rk o) with
      | true => allB (fun (q2 : Nat × Option Nat) => match eqO q2.2 (some o) with | true => Nat.beq q2.1 q.1 | false => true) mm
      | false => false)
    | _, _ => false)
  | true, false => (match stays rk N0 q.1 with | true => eqO q.2 (some q.1) | false => false)
  | _, _ => false) mm
def okPre (N0 : Nat) (keys : List Nat) (pre : SSto) : Bool := allB (fun (q : Nat × Option SOb) => match mem keys q.1 with
  | true => true
  | false => (match Nat.blt q.1 N0 with | true => false | false => true)) pre
def rfOf (rk : List Nat) (N0 : Nat) (mm : Rm) : Rf := fun s => match lookR mm s with
  | some x => some x
  | none => (match stays rk N0 s with | true => some (some s) | false => none)
def meetQ (n : Nat) (L : SSto) (N0 N1 : Nat) (rk : List Nat) (upd : Frm) (obs : List (Nat × SOb)) (F' : Frm) (L' : SSto) : Option (List Prop) :=
  match eqvF n F' upd with
  | none => none
  | some (p, m1) => (match eqvL L' rk obs m1 with
    | none => none
    | some (q, m2) => (match okM rk N0 N1 m2, okPre N0 (keysO obs) (L'.take (L'.length - L.length)), keptL L (keysO obs) rk N0, Nat.ble N0 N1 with
      | true, true, true, true => some (p ++ q)
      | _, _, _, _ => none))
theorem lookR_mem {m : Rm} {s : Nat} {x : Option Nat} (h : lookR m s = some x) : (s, x) ∈ m := by
  induction m with
  | nil => cases h
  | cons q m ih =>
    obtain ⟨a, b⟩ := q
    unfold lookR at h
    split at h
    · rename_i e; cases h; rw [Nat.eq_of_beq_eq_true e]; exact List.mem_cons_self
    · exact List.mem_cons_of_mem _ (ih h)
theorem eqvF_rel {n : Nat} {F' : Frm} {m : Rf} : ∀ {upd : Frm} {ps : List Prop} {r : Rm}, eqvF n F' upd = some (ps, r) → (∀ p ∈ ps, p) → AgreeR m r → ∀ q ∈ upd, relV m q.2.av (F'.at q.1).av ∧ q.2.ok
  | [], ps, r, _, _, _, q, hq => by cases hq
  | (d, v) :: upd, ps, r, h, hp, hm, q, hq => by
    unfold eqvF at h
    split at h <;> cases h
    rename_i p1 m1 p2 m2 h1 h2 h3 h4
    rcases List.mem_cons.1 hq with rfl | hq
    · exact ⟨eqv_rel 3 _ _ _ _ h3 (fun a ha => hp a (List.mem_append_left _ ha)) hm.left, SV.ok_of h2⟩
    · exact eqvF_rel h4 (fun a ha => hp a (List.mem_append_right _ ha)) hm.right q hq
theorem eqvL_rel {L' : SSto} {rk : List Nat} {m : Rf} : ∀ {obs : List (Nat × SOb)} {mm : Rm} {ps : List Prop} {r : Rm}, eqvL L' rk obs mm = some (ps, r) → (∀ p ∈ ps, p) → AgreeR m r →
    (∃ k, r = mm ++ k) ∧ ∀ q ∈ obs, match m q.1 with
      | some (some o) => ∃ ob, L'.at o = some ob ∧ relOb m q.2.ob ob.ob
      | some none => q.2.ob.esz ≠ 0 ∧ q.2.ob.cells = []
      | none => False
  | [], mm, ps, r, h, _, _ => by unfold eqvL at h; cases h; exact ⟨⟨[], by simp⟩, fun q hq => by cases hq⟩
  | (s, ob) :: obs, mm, ps, r, h, hp, hm => by
    unfold eqvL at h
    split at h
    · cases h
    · rename_i hi
      split at h
      · rename_i ty t l
        split at h <;> cases h
        rename_i q k hk
        obtain ⟨⟨k', e⟩, h2⟩ := eqvL_rel hk (fun a ha => hp a (List.mem_cons_of_mem _ ha)) hm
        refine ⟨⟨(s, none) :: k', by rw [e]; simp⟩, fun q hq => ?_⟩
        rcases List.mem_cons.1 hq with rfl | hq
        · have : m s = some none := hm (s, none) (by rw [e]; simp)
          dsimp only
          rw [this]
          have hl : l = [] := hp _ List.mem_cons_self
          subst hl
          exact ⟨Nat.ne_of_gt t.w_pos, rfl⟩
        · exact h2 q hq
      · cases h
    · rename_i o hi
      split at h
      · cases h
      · rename_i ob' hob
        split at h
        · cases h
        · rename_i p m2 he
          split at h <;> cases h
          rename_i q k hk
          obtain ⟨⟨k', e⟩, h2⟩ := eqvL_rel hk (fun a ha => hp a (List.mem_append_right _ ha)) hm
          refine ⟨⟨(s, some o) :: m2 ++ k', by rw [e]; simp⟩, fun q hq => ?_⟩
          rcases List.mem_cons.1 hq with rfl | hq
          · have : m s = some (some o) := hm (s, some o) (by rw [e]; simp)
            dsimp only
            rw [this]
            refine ⟨ob', hob, eqvOb_rel he (fun a ha => hp a (List.mem_append_left _ ha)) ?_⟩
            intro q hq
            exact hm q (by rw [e]; simp [hq])
          · exact h2 q hq
theorem badF_mem {F : Frm} {rk : List Nat} {N0 : Nat} {d : Nat} : ∀ {G : Frm}, (∃ v, (d, v) ∈ G ∧ allB (stays rk N0) v.sites = false) → d ∉ badF F rk N0 G → allB (stays rk N0) (F.at d).sites = true
  | [], ⟨v, h, _⟩, _ => by cases h
  | (e, u) :: G, ⟨v, h, hv⟩, hn => by
    unfold badF at hn
    rcases List.mem_cons.1 h with h | h
    · cases h
      rw [hv] at hn
      dsimp only at hn
      split at hn
      · rename_i he; exact he
      · exact absurd List.mem_cons_self hn
    · split at hn
      · exact badF_mem ⟨v, h, hv⟩ hn
      · split at hn
        · exact badF_mem ⟨v, h, hv⟩ hn
        · exact badF_mem ⟨v, h, hv⟩ (fun hh => hn (List.mem_cons_of_mem _ hh))
theorem at_mem (F : Frm) (d : Nat) : (F.at d) = .undef ∨ (d, F.at d) ∈ F := by
  induction F with
  | nil => exact .inl rfl
  | cons q F ih =>
    obtain ⟨e, v⟩ := q
    rw [Frm.at_cons]
    split
    · rename_i h; subst h; exact .inr List.mem_cons_self
    · rcases ih with h | h
      · exact .inl h
      · exact .inr (List.mem_cons_of_mem _ h)
theorem good_at {F : Frm} {rk : List Nat} {N0 d : Nat} (h : d ∉ badF F rk N0 F) : allB (stays rk N0) (F.at d).sites = true := by
  rcases at_mem F d with e | e
  · rw [e]; rfl
  · cases hb : allB (stays rk N0) (F.at d).sites with
    | true => rfl
    | false => rw [← hb]; exact badF_mem ⟨_, e, hb⟩ h
theorem Frm.at_append (A B : Frm) (d : Nat) : (Frm.at (A ++ B) d) = if d ∈ A.map (·.1) then A.at d else B.at d := by
  induction A with
  | nil => simp
  | cons q A ih =>
    obtain ⟨e, v⟩ := q
    rw [List.cons_append, Frm.at_cons, Frm.at_cons, ih]
    by_cases h : d = e
    · subst h; simp
    · rw [if_neg h, if_neg h]
      by_cases h2 : d ∈ A.map (·.1)
      · rw [if_pos h2, if_pos]
        rw [List.map_cons]; exact List.mem_cons_of_mem _ h2
      · rw [if_neg h2, if_neg]
        rw [List.map_cons, List.mem_cons]
        rintro (h3 | h3)
        · exact h h3
        · exact h2 h3
theorem any_at (l : List Nat) (d : Nat) : (Frm.at (l.map fun d => (d, SV.any)) d) = if d ∈ l then .any else .undef := by
  induction l with
  | nil => rfl
  | cons e l ih =>
    rw [List.map_cons, Frm.at_cons, ih]
    by_cases h : d = e
    · subst h; simp
    · simp [h]
theorem at_in {F : Frm} {d : Nat} (h : d ∈ F.map (·.1)) : (d, F.at d) ∈ F := by
  induction F with
  | nil => cases h
  | cons q F ih =>
    obtain ⟨e, v⟩ := q
    rw [Frm.at_cons]
    split
    · rename_i he; subst he; exact List.mem_cons_self
    · rename_i he
      rw [List.map_cons] at h
      rcases List.mem_cons.1 h with h | h
      · exact absurd h he
      · exact List.mem_cons_of_mem _ (ih h)
theorem SSto.at_append (A B : SSto) (s : Nat) : (SSto.at (A ++ B) s) = if s ∈ A.map (·.1) then A.at s else B.at s := by
  induction A with
  | nil => simp
  | cons q A ih =>
    obtain ⟨e, v⟩ := q
    rw [List.cons_append]
    show (match Nat.beq s e with | true => v | false => SSto.at (A ++ B) s) = if _ then (match Nat.beq s e with | true => v | false => SSto.at A s) else _
    cases h : Nat.beq s e with
    | true => have := Nat.eq_of_beq_eq_true h; subst this; simp
    | false =>
      have := Nat.ne_of_beq_eq_false h
      dsimp only
      rw [ih]
      by_cases h2 : s ∈ A.map (·.1)
      · rw [if_pos h2, if_pos]
        rw [List.map_cons]; exact List.mem_cons_of_mem _ h2
      · rw [if_neg h2, if_neg]
        rw [List.map_cons, List.mem_cons]
        rintro (h3 | h3)
        · exact this h3
        · exact h2 h3
theorem SSto.at_in {L : SSto} {s : Nat} {ob : SOb} (h : L.at s = some ob) : (s, some ob) ∈ L := by
  induction L with
  | nil => cases h
  | cons q L ih =>
    obtain ⟨e, v⟩ := q
    change (match Nat.beq s e with | true => v | false => SSto.at L s) = some ob at h
    cases hb : Nat.beq s e with
    | true => rw [hb] at h; have := Nat.eq_of_beq_eq_true hb; subst this; cases h; exact List.mem_cons_self
    | false => rw [hb] at h; exact List.mem_cons_of_mem _ (ih h)
theorem meet_weak {n : Nat} {F F' upd : Frm} {L L' : SSto} {N0 N1 N' : Nat} {obs : List (Nat × SOb)} {hav : List Nat} {ps : List Prop} {rk : List Nat} (h : meetQ n L N0 N1 rk upd obs F' L' = some ps) (hp : ∀ p ∈ ps, p)
    (hF : Pre (fun d => d ∈ hav) F F') (hbad : ∀ d ∈ badF F rk N0 F, d ∈ hav) (hL : PreL L L') :
    Weak (F'.av n) L'.sto N' ((headF F upd hav).av n) (headL L obs).sto N1 := by
  unfold meetQ at h
  split at h
  · cases h
  rename_i p1 m1 h1
  split at h
  · cases h
  rename_i p2 mm h2
  split at h <;> cases h
  rename_i h3 h4 h5 h6
  let m : Rf := rfOf rk N0 mm
  have hokM : ∀ s x, (s, x) ∈ mm → lookR mm s = some x ∧ ((mem rk s = true ∧ s < N1 ∧ ∀ o, x = some o → (o < N0 → mem rk o = true) ∧ ∀ s', (s', some o) ∈ mm → s' = s) ∨ (mem rk s = false ∧ s < N0 ∧ x = some s)) := by
    intro s x hs
    have := allB_iff h3 (s, x) hs
    dsimp only at this
    split at this
    · rename_i e1 e2
      refine ⟨?_, .inl ⟨e2, ?_⟩⟩
      · unfold isO at e1
        split at e1
        · rename_i heq; rw [heq, eqO_eq e1]
        · cases e1
      · split at this
        · rename_i e3; exact ⟨(blt_iff _ _).1 e3, fun o ho => by cases ho⟩
        · rename_i o e3
          refine ⟨(blt_iff _ _).1 e3, fun o' ho => ?_⟩
          cases ho
          split at this
          · rename_i e4
            refine ⟨fun hlt => ?_, fun s' hs' => ?_⟩
            · rw [(blt_iff _ _).2 hlt] at e4; exact e4
            · have := allB_iff this (s', some o) hs'
              dsimp only at this
              rw [show eqO (some o) (some o) = true from Nat.beq_refl o] at this
              exact Nat.eq_of_beq_eq_true this
          · cases this
        · cases this
    · rename_i e1 e2
      split at this
      · rename_i e3
        refine ⟨?_, .inr ⟨e2, ?_, eqO_eq this⟩⟩
        · unfold isO at e1
          split at e1
          · rename_i heq; rw [heq, eqO_eq e1]
          · cases e1
        · unfold stays at e3
          split at e3
          · rename_i e4 _; exact (blt_iff _ _).1 e4
          · cases e3
      · cases this
    · cases this
  have hstay : ∀ s, stays rk N0 s = true → m s = some (some s) ∧ s < N0 ∧ mem rk s = false := by
    intro s hs
    have : s < N0 ∧ mem rk s = false := by
      unfold stays at hs
      split at hs
      · rename_i e1 e2; exact ⟨(blt_iff _ _).1 e1, e2⟩
      · cases hs
    refine ⟨?_, this⟩
    show (match lookR mm s with | some x => some x | none => _) = _
    cases hl : lookR mm s with
    | some x =>
      rcases (hokM s x (lookR_mem hl)).2 with ⟨e, _⟩ | ⟨_, _, e⟩
      · rw [this.2] at e; cases e
      · rw [e]
    | none => dsimp only; rw [hs]
  have hm : ∀ s x, m s = some x → (s, x) ∈ mm ∨ (stays rk N0 s = true ∧ x = some s) := by
    intro s x hs
    change (match lookR mm s with | some x => some x | none => (match stays rk N0 s with | true => some (some s) | false => none)) = some x at hs
    cases hl : lookR mm s with
    | some y => rw [hl] at hs; cases hs; exact .inl (lookR_mem hl)
    | none =>
      rw [hl] at hs
      dsimp only at hs
      split at hs
      · rename_i e; cases hs; exact .inr ⟨e, rfl⟩
      · cases hs
  have hag : AgreeR m mm := by
    intro q hq
    have := (hokM q.1 q.2 hq).1
    show (match lookR mm q.1 with | some x => some x | none => _) = _
    rw [this]
  obtain ⟨⟨k, hk⟩, hobs⟩ := eqvL_rel h2 (fun a ha => hp a (List.mem_append_right _ ha)) hag
  have hag1 : AgreeR m m1 := fun q hq => hag q (by rw [hk]; exact List.mem_append_left _ hq)
  have hupd := eqvF_rel h1 (fun a ha => hp a (List.mem_append_left _ ha)) hag1
  have h6' := Nat.le_of_ble_eq_true h6
  refine weak_rf m ?_ ?_ (by rw [Frm.av_length, Frm.av_length]) ?_ ?_
  · intro s x hs
    rcases hm s x hs with h | ⟨h, _⟩
    · rcases (hokM s x h).2 with ⟨_, e, _⟩ | ⟨_, e, _⟩
      · exact e
      · omega
    · have := (hstay s h).2.1; omega
  · intro s s' o hs hs'
    rcases hm s (some o) hs with h | ⟨h, e⟩
    · rcases (hokM s _ h).2 with ⟨e1, e2, e3⟩ | ⟨e1, e2, e3⟩
      · obtain ⟨e4, e5⟩ := e3 o rfl
        rcases hm s' (some o) hs' with h' | ⟨h', e'⟩
        · exact (e5 s' h').symm
        · have e' := Option.some.inj e'
          obtain ⟨_, e6, e7⟩ := hstay s' h'
          rw [← e', e4 (by omega)] at e7; cases e7
      · have e3 := Option.some.inj e3
        rcases hm s' (some o) hs' with h' | ⟨h', e'⟩
        · rcases (hokM s' _ h').2 with ⟨g1, g2, g3⟩ | ⟨g1, g2, g3⟩
          · exact (g3 o rfl).2 s h
          · have := Option.some.inj g3; omega
        · have := Option.some.inj e'; omega
    · have e := Option.some.inj e
      rcases hm s' (some o) hs' with h' | ⟨h', e'⟩
      · rcases (hokM s' _ h').2 with ⟨g1, g2, g3⟩ | ⟨g1, g2, g3⟩
        · obtain ⟨_, e6, e7⟩ := hstay s h
          rw [← e, (g3 o rfl).1 (by omega)] at e7; cases e7
        · have := Option.some.inj g3; omega
      · have := Option.some.inj e'; omega
  · intro t ht
    rw [Frm.av_length] at ht
    rw [Frm.av_getD ht, Frm.av_getD ht]
    unfold headF
    rw [Frm.at_append, Frm.at_append]
    split
    · rename_i hin
      split
      · rename_i hu; exact (hupd _ (at_in hu)).1
      · rw [any_at]
        split
        · simp only [SV.av]; unfold relV; trivial
        · rename_i hu hh
          rw [List.map_append] at hin
          rcases List.mem_append.1 hin with h | h
          · exact absurd h hu
          · simp only [List.map_map, List.mem_map, Function.comp_apply] at h
            obtain ⟨a, ha, e⟩ := h
            exact absurd (e ▸ ha) hh
    · rename_i hin
      have hh : t ∉ hav := fun hh => hin (by
        rw [List.map_append]
        refine List.mem_append_right _ ?_
        simp only [List.map_map, List.mem_map, Function.comp_apply]
        exact ⟨t, hh, rfl⟩)
      have hgood := good_at (fun hb => hh (hbad t hb))
      obtain ⟨pre, e, hpre⟩ := hF
      have : Frm.at F' t = Frm.at F t := by
        rw [e, Frm.at_append, if_neg]
        intro h
        simp only [List.mem_map] at h
        obtain ⟨q, hq, e⟩ := h
        exact hh (e ▸ hpre q hq)
      rw [this]
      exact sites_rel _ fun s hs => (hstay s (allB_iff hgood s hs)).1
  · intro s ob' hs
    rw [SSto.look] at hs
    cases ho : (headL L obs).at s with
    | none => rw [ho] at hs; cases hs
    | some o' =>
      rw [ho] at hs; cases hs
      unfold headL at ho
      rw [SSto.at_append] at ho
      split at ho
      · have := SSto.at_in ho
        simp only [List.mem_map, Prod.mk.injEq, Option.some.injEq] at this
        obtain ⟨q, hq, rfl, rfl⟩ := this
        have := hobs q hq
        split at this
        · rename_i o e
          obtain ⟨ob, g1, g2⟩ := this
          try rw [e]
          exact ⟨_, by rw [SSto.look, g1]; rfl, g2⟩
        · rename_i e; (try rw [e]); exact this
        · exact this.elim
      · rename_i hnk
        have hnk' : mem (keysO obs) s = false := by
          cases hb : mem (keysO obs) s with
          | false => rfl
          | true =>
            exfalso
            apply hnk
            have := (mem_iff _ _).1 hb
            unfold keysO at this
            simpa [List.map_map] using this
        have := allB_iff h5 _ (SSto.at_in ho)
        dsimp only at this
        rw [hnk', ho] at this
        dsimp only at this
        split at this
        · rename_i hst
          obtain ⟨g1, g2, g3⟩ := hstay s hst
          rw [g1]
          refine ⟨o'.ob, ?_, obSites_rel _ fun s hs => (hstay s (allB_iff this s hs)).1⟩
          obtain ⟨pre, e⟩ := hL
          rw [SSto.look, e, SSto.at_append, if_neg, ho]; rfl
          intro hin
          have h4' := h4
          rw [e] at h4'
          rw [show (pre ++ L).length - L.length = pre.length by simp, List.take_left] at h4'
          simp only [List.mem_map] at hin
          obtain ⟨q, hq, e2⟩ := hin
          have := allB_iff h4' q hq
          rw [e2, hnk', (blt_iff _ _).2 g2] at this
          cases this
        · cases this
end Go.Proofs.YtdaeofhdgabhjaaGreat
namespace Go.Proofs.YtdaeofhdgabhjaaGreat
open Go.RowKit
inductive Ann : Type 1
  | mk (Y : Type) (wit : Frm → SSto → Option Y) (rk : List Nat) (inv : Y → List Prop) (upd : Y → Frm) (obs : Y → List (Nat × SOb)) (mu : Y → Nat) (inner : Y → List (Nat × Ann))
def findA : List (Nat × Ann) → Nat → Option Ann
  | [], _ => none
  | (k, a) :: l, x => match Nat.beq x k with | true => some a | false => findA l x
def asg : Code → List Nat
  | .region _ ops _ => ops.toList.filterMap (·.dst)
  | .seq a b => asg a ++ asg b
  | .cond _ t e => asg t ++ asg e
  | .block _ c => asg c
  | .loop c => asg c
  | _ => []
def keyOf : Code → Option Nat
  | .region id _ _ => some id
  | .seq a b => (match keyOf a with | some k => some k | none => keyOf b)
  | .cond _ t e => (match keyOf t with | some k => some k | none => keyOf e)
  | .block _ c => keyOf c
  | .loop c => keyOf c
  | _ => none
def annOf (A : List (Nat × Ann)) (c : Code) (j : Nat) : Option Ann := match keyOf c with
  | some k => findA A (k + j)
  | none => none
def topN (N : Nat) : List Nat → Nat
  | [] => N
  | s :: l => (match Nat.blt s (topN N l) with | true => topN N l | false => s + 1)
abbrev SPost := Exit → Frm → SSto → Nat → Fm
def vreg (X : Cx) (n : Nat) (raw : Nat → Nat → Bool) (id : Nat) (ops : List Oper) (draw : Bool) (F : Frm) (L : SSto) (N : Nat) (K : Frm → SSto → Fm) : Fm := match draw with
  | true => (match X.P.follows .mixedOrders, okReg ops (ancsOf ops), dOk ops n with
    | true, true, true => sops X n (raw id) N (ops.map (·.dst)) ops 0 F L [] fun F L log => (match okFeet (ancsOf ops) log with | true => K F L | false => .stuck (id + 100000))
    | _, _, _ => .stuck (id + 200000))
  | false => (match gOk ops with
    | true => sops X n (raw id) N (ops.map (·.dst)) ops 0 F L [] fun F L _ => K F L
    | false => .stuck (id + 300000))
def cutQ (n : Nat) (L : SSto) (N : Nat) (rk : List Nat) (upd : Frm) (obs : List (Nat × SOb)) (qs : List Prop) (F' : Frm) (L' : SSto) : Fm := match meetQ n L N (topN N rk) rk upd obs F' L' with
  | some ps => needs (ps ++ qs) .tt
  | none => .stuck 400000
def exq {Y : Type} (w : Option Y) (f : Y → Fm) : Fm := match w with
  | some y => f y
  | none => .ex Y f
theorem exq_holds {Y : Type} {w : Option Y} {f : Y → Fm} (h : (exq w f).holds) : ∃ y, (f y).holds := by
  cases w with
  | some y => exact ⟨y, h⟩
  | none => exact h
def fuelOf (A : List (Nat × Ann)) (c : Code) : Nat → Option Nat
  | 0 => none
  | k + 1 => (match annOf A c (30001 + k) with | some _ => some (k + 1) | none => fuelOf A c k)
def unr (body : SPost → Frm → SSto → Nat → Fm) (Q : SPost) : Nat → Frm → SSto → Nat → Fm
  | 0, _, _, _ => .stuck 810000
  | k + 1, F, L, N => body (fun e F' L' N' => match e with | .normal => unr body Q k F' L' N' | e => Q e F' L' N') F L N
def vc (X : Cx) (n : Nat) (raw : Nat → Nat → Bool) : Code → (Nat → Bool) → List (Nat × Ann) → SPost → Frm → SSto → Nat → Fm
  | .skip, _, _, Q, F, L, N => Q .normal F L N
  | .region id ops draw, _, _, Q, F, L, N => vreg X n raw id ops.toList draw F L N fun F L => Q .normal F L (N + ops.size)
  | .seq a b, al, A, Q, F, L, N => (match annOf A b 10000 with
    | none => vc X n raw a al A (fun e F L N => match e with | .normal => vc X n raw b al A Q F L N | e => Q e F L N) F L N
    | some (.mk Y wit rk inv upd obs _ inner) => (match allB al (badF F rk N F) with
      | true => .both
        (vc X n raw a (mem (asg a)) A (fun e F1 L1 N1 => match e with | .normal => exq (wit F1 L1) fun y => cutQ n L N rk (upd y) (obs y) (inv y) F1 L1 | e => Q e F1 L1 N1) F L N)
        (.all Y fun y => imps (inv y) (match allB (fun q => mem (asg a ++ badF F rk N F) q.1) (upd y) with
          | true => vc X n raw b al (inner y ++ A) Q (headF F (upd y) (asg a ++ badF F rk N F)) (headL L (obs y)) (topN N rk)
          | false => .stuck 500000))
      | false => .stuck 600000))
  | .cond c t e, al, A, Q, F, L, N => (match evalS n F c with
    | .lit true => vc X n raw t al A Q F L N
    | .lit false => vc X n raw e al A Q F L N
    | .prop p _ => .both (.imp p (vc X n raw t al A Q F L N)) (.imp (¬ p) (vc X n raw e al A Q F L N))
    | .bool b => .both (.imp (b = true) (vc X n raw t al A Q F L N)) (.imp (b = false) (vc X n raw e al A Q F L N))
    | _ => .stuck 700000)
  | .block id c, al, A, Q, F, L, N => vc X n raw c al A (fun e F L N => match e with | .exit id' => (match Nat.beq id' id with | true => Q .normal F L N | false => Q (.exit id') F L N) | e => Q e F L N) F L N
  | .loop c, al, A, Q, F, L, N => (match annOf A c 0 with
    | none => (match fuelOf A c 6 with
      | some k => unr (fun Q F L N => vc X n raw c al A Q F L N) Q k F L N
      | none => .stuck 800000)
    | some (.mk Y wit rk inv upd obs mu inner) => (match allB al (badF F rk N F) with
      | true => .both
        (exq (wit F L) fun y => cutQ n L N rk (upd y) (obs y) (inv y) F L)
        (.all Y fun x => imps (inv x) (match allB (fun q => mem (asg c ++ badF F rk N F) q.1) (upd x) with
          | true => vc X n raw c (mem (asg c)) (inner x ++ A) (fun e F1 L1 N1 => match e with | .normal => exq (wit F1 L1) fun y => cutQ n L N rk (upd y) (obs y) (inv y ++ [mu y < mu x]) F1 L1 | e => Q e F1 L1 N1) (headF F (upd x) (asg c ++ badF F rk N F)) (headL L (obs x)) (topN N rk)
          | false => .stuck 500000))
      | false => .stuck 600000))
  | .exit id, _, _, Q, F, L, N => Q (.exit id) F L N
  | .ret, _, _, Q, F, L, N => Q .ret F L N
  | _, _, _, _, _, _, _ => .stuck 900000
theorem Told.mono {n : Nat} {S T : Nat → Prop} {F : Frm} {L : SSto} {FA : List AV} {LA : Sto} {G H : Frm → SSto → Prop} (hS : ∀ d, S d → T d) (hG : ∀ F L, F.ok → G F L → H F L) (h : Told n S F L FA LA G) : Told n T F L FA LA H := by
  obtain ⟨F', L', a, b, c, d, e, f⟩ := h
  exact ⟨F', L', a, b, c, d.mono hS, e, hG F' L' c f⟩
theorem least {p : Nat → Prop} (h : ∃ k, p k) : ∃ k, p k ∧ ∀ j, p j → k ≤ j := by
  obtain ⟨k, hk⟩ := h
  induction k using Nat.strongRecOn with
  | ind k ih =>
    by_cases hh : ∃ j, j < k ∧ p j
    · obtain ⟨j, hj, hpj⟩ := hh; exact ih j hj hpj
    · exact ⟨k, hk, fun j hj => Nat.le_of_not_lt fun hlt => hh ⟨j, hlt, hj⟩⟩
theorem headF_pre {F upd : Frm} {hav : List Nat} : Pre (fun d => d ∈ upd.map (·.1) ∨ d ∈ hav) F (headF F upd hav) := by
  refine ⟨upd ++ (hav.map fun d => (d, SV.any)), by unfold headF; simp, fun q hq => ?_⟩
  rcases List.mem_append.1 hq with h | h
  · exact .inl (List.mem_map.2 ⟨q, h, rfl⟩)
  · obtain ⟨d, hd, rfl⟩ := List.mem_map.1 h; exact .inr hd
theorem headL_pre {L : SSto} {obs : List (Nat × SOb)} : PreL L (headL L obs) := ⟨_, rfl⟩
theorem headF_ok {F upd : Frm} {hav : List Nat} (hF : F.ok) (hu : ∀ q ∈ upd, q.2.ok) : (headF F upd hav).ok := by
  intro t
  unfold headF
  rw [Frm.at_append, Frm.at_append]
  split
  · split
    · rename_i h; exact hu _ (at_in h)
    · rw [any_at]; split <;> trivial
  · exact hF t
theorem eqvF_ok {n : Nat} {F' : Frm} : ∀ {upd : Frm} {ps : List Prop} {r : Rm}, eqvF n F' upd = some (ps, r) → ∀ q ∈ upd, q.2.ok
  | [], ps, r, _, q, hq => by cases hq
  | (d, v) :: upd, ps, r, h, q, hq => by
    unfold eqvF at h
    split at h <;> cases h
    rename_i p1 m1 p2 m2 h1 h2 h3 h4
    rcases List.mem_cons.1 hq with rfl | hq
    · exact SV.ok_of h2
    · exact eqvF_ok h4 q hq
theorem cutQ_ok {n : Nat} {F F' upd : Frm} {L L' : SSto} {N N' : Nat} {rk : List Nat} {obs : List (Nat × SOb)} {hav : List Nat} {qs : List Prop} (h : (cutQ n L N rk upd obs qs F' L').holds)
    (hF : Pre (fun d => d ∈ hav) F F') (hbad : ∀ d ∈ badF F rk N F, d ∈ hav) (hL : PreL L L') :
    Weak (F'.av n) L'.sto N' ((headF F upd hav).av n) (headL L obs).sto (topN N rk) ∧ (∀ p ∈ qs, p) ∧ ∀ q ∈ upd, q.2.ok := by
  unfold cutQ at h
  split at h
  · rename_i ps hm
    have hp := (needs_holds h).1
    refine ⟨meet_weak hm (fun p hpp => hp p (List.mem_append_left _ hpp)) hF hbad hL, fun p hpp => hp p (List.mem_append_right _ hpp), ?_⟩
    unfold meetQ at hm
    split at hm
    · cases hm
    · rename_i h1; exact eqvF_ok h1
  · exact h.elim
theorem vreg_ok {X : Cx} (hX : X.Ok) {n : Nat} {raw : Nat → Nat → Bool} {id : Nat} {ops : Array Oper} {draw : Bool} {F : Frm} {L : SSto} {N : Nat} {K : Frm → SSto → Fm} (hF : F.ok) (h : (vreg X n raw id ops.toList draw F L N K).holds) :
    areg X.P draw ops.toList (F.av n) L.sto N fun FA LA => Told n (fun d => d ∈ asg (.region id ops draw)) F L FA LA fun F' L' => (K F' L').holds := by
  have hd : ∀ o ∈ ops.toList, o.dst ∈ ops.toList.map (·.dst) := fun o ho => List.mem_map.2 ⟨o, ho, rfl⟩
  have hS : ∀ d, some d ∈ ops.toList.map (·.dst) → d ∈ asg (.region id ops draw) := by
    intro d hd
    obtain ⟨o, ho, e⟩ := List.mem_map.1 hd
    exact List.mem_filterMap.2 ⟨o, ho, e⟩
  unfold vreg at h
  split at h
  · split at h
    · rename_i h1 h2 h3
      refine ⟨_, h1, h2, by rw [Frm.av_length]; exact h3, ?_⟩
      refine aops_mono ?_ (sops_ok hX ops.toList 0 F L [] hd hF h)
      intro FA LA log ht
      have hf : okFeet (ancsOf ops.toList) log = true := by
        obtain ⟨_, _, _, _, _, _, _, hh⟩ := ht
        split at hh
        · assumption
        · exact hh.elim
      refine ⟨hf, ht.mono hS fun F L _ hh => ?_⟩
      rw [hf] at hh; exact hh
    · exact h.elim
  · split at h
    · rename_i h1
      exact ⟨h1, aops_mono (fun _ _ _ ht => ht.mono hS fun _ _ _ h => h) (sops_ok hX ops.toList 0 F L [] hd hF h)⟩
    · exact h.elim
theorem vc_sound {X : Cx} (hX : X.Ok) {n : Nat} {raw : Nat → Nat → Bool} : ∀ (c : Code) (al : Nat → Bool) (A : List (Nat × Ann)) (Q : SPost) (F : Frm) (L : SSto) (N : Nat), (∀ d ∈ asg c, al d = true) → F.ok → (vc X n raw c al A Q F L N).holds →
    awp X.P c (fun e FA LA N' => Told n (fun d => al d = true) F L FA LA fun F' L' => (Q e F' L' N').holds) (F.av n) L.sto N := by
  intro c
  induction c with
  | skip => intro al A Q F L N hal hF h; exact ⟨F, L, rfl, rfl, hF, Pre.rfl, PreL.rfl, h⟩
  | region id ops draw =>
    intro al A Q F L N hal hF h
    have := vreg_ok hX hF h
    show areg _ _ _ _ _ _ _
    cases draw with
    | true => obtain ⟨anc, h1, h2, h3, h4⟩ := this; exact ⟨anc, h1, h2, h3, aops_mono (fun F L log ⟨a, b⟩ => ⟨a, b.mono hal fun _ _ _ h => h⟩) h4⟩
    | false => obtain ⟨h1, h2⟩ := this; exact ⟨h1, aops_mono (fun F L log b => b.mono hal fun _ _ _ h => h) h2⟩
  | seq a b iha ihb =>
    intro al A Q F L N hal hF h
    have hala : ∀ d ∈ asg a, al d = true := fun d hd => hal d (List.mem_append_left _ hd)
    have halb : ∀ d ∈ asg b, al d = true := fun d hd => hal d (List.mem_append_right _ hd)
    unfold vc at h
    split at h
    · have h1 := iha al A _ F L N hala hF h
      refine ⟨fun FA LA N' => Told n (fun d => al d = true) F L FA LA fun F' L' => (vc X n raw b al A Q F' L' N').holds, awp_mono a ?_ h1, ?_⟩
      · intro e FA LA N' h; cases e <;> exact h
      · rintro FA LA N' ⟨F', L', rfl, rfl, hF', hpre, hpreL, hh⟩
        refine ⟨_, _, _, Weak.rfl, awp_mono b ?_ (ihb al A Q F' L' N' halb hF' hh)⟩
        intro e FA LA N' ht
        exact ht.step hpre hpreL
    · rename_i Y wit rk inv upd obs mu inner hA
      split at h
      case h_2 => exact h.elim
      rename_i hbad
      have hbad := allB_iff hbad
      obtain ⟨h1, h2⟩ := Fm.both_holds h
      have hmem : ∀ d, mem (asg a) d = true → d ∈ asg a := fun d => (mem_iff d _).1
      have h1 := iha (mem (asg a)) A _ F L N (fun d hd => (mem_iff _ _).2 hd) hF h1
      refine awp_seq_join (fun FA LA N' => ∃ y, (∀ p ∈ inv y, p) ∧ (∀ q ∈ upd y, q.2.ok) ∧ FA = (headF F (upd y) (asg a ++ badF F rk N F)).av n ∧ LA = (headL L (obs y)).sto ∧ N' = topN N rk) (awp_mono a ?_ h1) ?_
      · intro e FA LA N' ht
        cases e
        case normal =>
          obtain ⟨F', L', rfl, rfl, hF', hpre, hpreL, hh⟩ := ht
          obtain ⟨y, hh⟩ := exq_holds hh
          obtain ⟨k1, k2, k3⟩ := cutQ_ok (N' := N') (hav := asg a ++ badF F rk N F) hh (hpre.mono fun d hd => List.mem_append_left _ (hmem d hd)) (fun d hd => List.mem_append_right _ hd) hpreL
          exact ⟨_, _, _, k1, y, k2, k3, rfl, rfl, rfl⟩
        all_goals exact ht.mono (fun d hd => hala d (hmem d hd)) fun _ _ _ h => h
      · rintro FA LA N' ⟨y, hy, hok, rfl, rfl, rfl⟩
        have h2 := imps_holds ((h2 : ∀ y : Y, Fm.holds _) y) hy
        split at h2
        case h_2 => exact h2.elim
        rename_i hu
        have hu := allB_iff hu
        refine awp_mono b ?_ (ihb al (inner y ++ A) Q _ _ _ halb (headF_ok hF hok) h2)
        intro e FA LA N' ht
        refine ht.step (headF_pre.mono ?_) headL_pre
        rintro d (hd | hd)
        · obtain ⟨q, hq, rfl⟩ := List.mem_map.1 hd
          rcases List.mem_append.1 ((mem_iff _ _).1 (hu q hq)) with hd | hd
          · exact hala _ hd
          · exact hbad _ hd
        · rcases List.mem_append.1 hd with hd | hd
          · exact hala _ hd
          · exact hbad _ hd
  | cond c t e iht ihe =>
    intro al A Q F L N hal hF h
    have halt : ∀ d ∈ asg t, al d = true := fun d hd => hal d (List.mem_append_left _ hd)
    have hale : ∀ d ∈ asg e, al d = true := fun d hd => hal d (List.mem_append_right _ hd)
    unfold vc at h
    have ev : ∀ v, evalS n F c = v → evalA (F.av n) c = v.av := fun v hv => by rw [← evalS_av, hv]
    split at h
    · rename_i hc
      exact ⟨true, ev _ hc, fun _ => iht al A Q F L N halt hF h, fun hh => by cases hh⟩
    · rename_i hc
      exact ⟨false, ev _ hc, (fun hh => by cases hh), fun _ => ihe al A Q F L N hale hF h⟩
    · rename_i p d hc
      obtain ⟨h1, h2⟩ := Fm.both_holds h
      refine ⟨@decide p d, ev _ hc, fun hh => iht al A Q F L N halt hF ((h1 : p → _) (of_decide_eq_true hh)), fun hh => ihe al A Q F L N hale hF ((h2 : ¬ p → _) (of_decide_eq_false hh))⟩
    · rename_i b hc
      obtain ⟨h1, h2⟩ := Fm.both_holds h
      exact ⟨b, ev _ hc, fun hh => iht al A Q F L N halt hF ((h1 : b = true → _) hh), fun hh => ihe al A Q F L N hale hF ((h2 : b = false → _) hh)⟩
    · exact h.elim
  | block id c ih =>
    intro al A Q F L N hal hF h
    unfold vc at h
    have := ih al A _ F L N hal hF h
    refine awp_mono c ?_ this
    intro e FA LA N' ht
    cases e
    case exit id' =>
      dsimp only at ht ⊢
      cases hb : Nat.beq id' id with
      | true =>
        rw [if_pos (Nat.eq_of_beq_eq_true hb)]
        rw [hb] at ht
        exact ht
      | false =>
        rw [if_neg (Nat.ne_of_beq_eq_false hb)]
        rw [hb] at ht
        exact ht
    all_goals exact ht
  | loop c ih =>
    intro al A Q F L N hal hF h
    unfold vc at h
    split at h
    · split at h
      case h_2 => exact h.elim
      rename_i k0 _
      let rep : Nat → List AV → Sto → Nat → Prop := fun k FA LA N' => Told n (fun d => al d = true) F L FA LA fun F' L' => (unr (fun Q F L N => vc X n raw c al A Q F L N) Q k F' L' N').holds
      have hmu : ∃ μ : List AV → Sto → Nat → Nat, ∀ FA LA N', (∃ k, rep k FA LA N') → rep (μ FA LA N') FA LA N' ∧ ∀ k, rep k FA LA N' → μ FA LA N' ≤ k := by
        have : ∀ FA LA N', ∃ k, (∃ k, rep k FA LA N') → rep k FA LA N' ∧ ∀ j, rep j FA LA N' → k ≤ j := by
          intro FA LA N'
          by_cases hh : ∃ k, rep k FA LA N'
          · obtain ⟨k, h1, h2⟩ := least hh; exact ⟨k, fun _ => ⟨h1, h2⟩⟩
          · exact ⟨0, fun h => absurd h hh⟩
        exact ⟨fun FA LA N' => Classical.choose (this FA LA N'), fun FA LA N' => Classical.choose_spec (this FA LA N')⟩
      obtain ⟨μ, hμ⟩ := hmu
      refine awp_loopN (fun FA LA N' => ∃ k, rep k FA LA N') μ ⟨_, _, _, Weak.rfl, k0, ⟨F, L, rfl, rfl, hF, Pre.rfl, PreL.rfl, h⟩⟩ ?_
      intro FA LA N' hr
      have hk := (hμ FA LA N' hr).1
      generalize hkk : μ FA LA N' = k at hk ⊢
      obtain ⟨F', L', rfl, rfl, hF', hpre, hpreL, hh⟩ := hk
      cases k with
      | zero => exact hh.elim
      | succ k =>
        refine awp_mono c ?_ (ih al A _ F' L' N' hal hF' hh)
        intro e FA LA N2 ht
        have ht := ht.step hpre hpreL
        cases e
        case normal =>
          have hr2 : rep k FA LA N2 := ht
          exact ⟨_, _, _, Weak.rfl, ⟨k, hr2⟩, Nat.lt_succ_of_le ((hμ _ _ _ ⟨k, hr2⟩).2 k hr2)⟩
        all_goals exact ht
    rename_i Y wit rk inv upd obs mu inner hA
    split at h
    case h_2 => exact h.elim
    rename_i hbad
    have hbad := allB_iff hbad
    obtain ⟨h1, h2⟩ := Fm.both_holds h
    obtain ⟨y0, h1⟩ := exq_holds h1
    have hmem : ∀ d, mem (asg c) d = true → d ∈ asg c := fun d => (mem_iff d _).1
    let hav := asg c ++ badF F rk N F
    let rep : Y → List AV → Sto → Prop := fun y FA LA => (∀ p ∈ inv y, p) ∧ (∀ q ∈ upd y, q.2.ok) ∧ FA = (headF F (upd y) hav).av n ∧ LA = (headL L (obs y)).sto
    obtain ⟨k1, k2, k3⟩ := cutQ_ok (N' := N) (hav := hav) h1 Pre.rfl (fun d hd => List.mem_append_right _ hd) PreL.rfl
    have hmu : ∃ μ : List AV → Sto → Nat, ∀ FA LA, (∃ y, rep y FA LA) → ∃ y, rep y FA LA ∧ mu y = μ FA LA ∧ ∀ z, rep z FA LA → μ FA LA ≤ mu z := by
      have : ∀ FA LA, ∃ k, (∃ y, rep y FA LA) → ∃ y, rep y FA LA ∧ mu y = k ∧ ∀ z, rep z FA LA → k ≤ mu z := by
        intro FA LA
        by_cases hh : ∃ y, rep y FA LA
        · obtain ⟨y, hy⟩ := hh
          obtain ⟨k, ⟨z, hz, e⟩, hk⟩ := least (p := fun k => ∃ y, rep y FA LA ∧ mu y = k) ⟨_, y, hy, rfl⟩
          exact ⟨k, fun _ => ⟨z, hz, e, fun u hu => hk _ ⟨u, hu, rfl⟩⟩⟩
        · exact ⟨0, fun h => absurd h hh⟩
      exact ⟨fun FA LA => Classical.choose (this FA LA), fun FA LA => Classical.choose_spec (this FA LA)⟩
    obtain ⟨μ, hμ⟩ := hmu
    refine awp_loop (fun FA LA N' => (∃ y, rep y FA LA) ∧ N' = topN N rk) μ ⟨_, _, _, k1, ⟨y0, k2, k3, rfl, rfl⟩, rfl⟩ ?_
    rintro FA LA N' ⟨hr, rfl⟩
    obtain ⟨x, ⟨hx, hok, rfl, rfl⟩, hmx, _⟩ := hμ FA LA hr
    have h2 := imps_holds ((h2 : ∀ x : Y, Fm.holds _) x) hx
    split at h2
    case h_2 => exact h2.elim
    rename_i hu
    have hu := allB_iff hu
    have hpre0 : Pre (fun d => d ∈ hav) F (headF F (upd x) hav) := by
      refine headF_pre.mono ?_
      rintro d (hd | hd)
      · obtain ⟨q, hq, rfl⟩ := List.mem_map.1 hd
        exact (mem_iff _ _).1 (hu q hq)
      · exact hd
    refine awp_mono c ?_ (ih (mem (asg c)) (inner x ++ A) _ _ _ _ (fun d hd => (mem_iff _ _).2 hd) (headF_ok hF hok) h2)
    intro e FA' LA' N' ht
    have up : ∀ (G : Frm → SSto → Prop), Told n (fun d => mem (asg c) d = true) (headF F (upd x) hav) (headL L (obs x)) FA' LA' G → Told n (fun d => al d = true) F L FA' LA' G := by
      intro G ht
      refine (ht.mono (fun d hd => hal d (hmem d hd)) fun _ _ _ h => h).step (hpre0.mono ?_) headL_pre
      intro d hd
      rcases List.mem_append.1 hd with hd | hd
      · exact hal d hd
      · exact hbad _ hd
    cases e
    case normal =>
      obtain ⟨F', L', rfl, rfl, hF', hpre, hpreL, hh⟩ := ht
      obtain ⟨y, hh⟩ := exq_holds hh
      obtain ⟨k1, k2, k3⟩ := cutQ_ok (N' := N') (hav := hav) hh (hpre0.trans (hpre.mono fun d hd => List.mem_append_left _ (hmem d hd))) (fun d hd => List.mem_append_right _ hd) (headL_pre.trans hpreL)
      have hry : rep y ((headF F (upd y) hav).av n) (headL L (obs y)).sto := ⟨fun p h => k2 p (List.mem_append_left _ h), k3, rfl, rfl⟩
      refine ⟨_, _, _, k1, ⟨⟨y, hry⟩, rfl⟩, ?_⟩
      obtain ⟨z, _, ez, hz⟩ := hμ _ _ ⟨y, hry⟩
      have g1 := hz y hry
      have g2 : mu y < mu x := k2 _ (List.mem_append_right _ (List.mem_singleton.2 rfl))
      omega
    all_goals exact up _ ht
  | exit id => intro al A Q F L N hal hF h; exact ⟨F, L, rfl, rfl, hF, Pre.rfl, PreL.rfl, h⟩
  | ret => intro al A Q F L N hal hF h; exact ⟨F, L, rfl, rfl, hF, Pre.rfl, PreL.rfl, h⟩
  | rangeFunc f params x y _ _ => intro al A Q F L N hal hF h; exact h.elim
  | scope c _ => intro al A Q F L N hal hF h; exact h.elim
  | label l => intro al A Q F L N hal hF h; exact h.elim
  | goto l => intro al A Q F L N hal hF h; exact h.elim
  | refuse s => intro al A Q F L N hal hF h; exact h.elim
end Go.Proofs.YtdaeofhdgabhjaaGreat
namespace Go.Proofs.YtdaeofhdgabhjaaGreat
open Go.RowKit
def resS (P : Program) (n : Nat) (F : Frm) (σ : Sg) : List ResultVar → Option (List SV)
  | [] => some []
  | .tmp t :: rs => (match Nat.blt t n, resS P n F σ rs with | true, some l => some (F.at t :: l) | _, _ => none)
  | .cell a t :: rs => (match Nat.blt a n, F.at a, resS P n F σ rs with
    | true, .ptr s off, some l => (match σ s with
      | some (.box _ cs) => (match loadS P t cs off with | some r => some (r :: l) | none => none)
      | some (.arr _ _ cs) => (match loadS P t cs off with | some r => some (r :: l) | none => none)
      | _ => none)
    | _, _, _ => none)
theorem resS_av {P : Program} {n : Nat} {F : Frm} {σ : Sg} : ∀ {rs : List ResultVar} {l : List SV} {K : List AV → Prop}, resS P n F σ rs = some l → K (avs l) → resA P rs (F.av n) σ.a K
  | [], l, K, h, hK => by cases h; exact hK
  | .tmp t :: rs, l, K, h, hK => by
    unfold resS at h
    split at h <;> cases h
    rename_i l' h1 h2
    unfold resA
    refine resS_av h2 ?_
    rw [Frm.av_getD ((blt_iff _ _).1 h1)]; exact hK
  | .cell a t :: rs, l, K, h, hK => by
    unfold resS at h
    split at h
    case h_2 => cases h
    rename_i s off l' h1 h2 h3
    unfold resA
    rw [Frm.av_getD ((blt_iff _ _).1 h1), h2]
    show ∃ ob, Sg.a σ s = some ob ∧ _
    split at h
    · rename_i ty cs hs
      split at h <;> cases h
      rename_i r hr
      exact ⟨_, by unfold Sg.a; rw [hs]; rfl, loadS_av hr (resS_av h3 hK)⟩
    · rename_i ty ez cs hs
      split at h <;> cases h
      rename_i r hr
      exact ⟨_, by unfold Sg.a; rw [hs]; rfl, loadS_av hr (resS_av h3 hK)⟩
    · cases h
def outS : List SV → SV
  | [x] => x
  | l => .tup l
def endR (P : Program) (n : Nat) (rs : List ResultVar) (r : SV) (F : Frm) (L : SSto) : Fm := match resS P n F L.at rs with
  | some l => (match mapS (snapS 3 L.at) l with
    | some (ps, m) => (match eqv 3 r (outS m) with
      | some (qs, []) => needs (ps ++ qs) .tt
      | _ => .stuck 920000)
    | none => .stuck 930000)
  | none => .stuck 940000
def retS (P : Program) (n : Nat) (rs : List ResultVar) (r : SV) : SPost := fun e F L _ => match e with
  | .normal => endR P n rs r F L
  | .ret => endR P n rs r F L
  | _ => .stuck 910000
theorem retS_ok {P : Program} {n : Nat} {rs : List ResultVar} {r : SV} {q : PV} (hr : r.av = .p q) {e : Exit} {F : Frm} {L : SSto} {N : Nat} (h : (retS P n rs r e F L N).holds) : retP P rs q e (F.av n) L.sto N := by
  have key : (endR P n rs r F L).holds → resA P rs (F.av n) (look L.sto) fun l => ∃ m, optM (snap 3 (look L.sto)) l = some m ∧ outP m = q := by
    intro h
    unfold endR at h
    split at h
    case h_2 => exact h.elim
    rename_i l hl
    split at h
    case h_2 => exact h.elim
    rename_i ps m hm
    split at h
    case h_2 => exact h.elim
    rename_i qs he
    have hp := (needs_holds h).1
    have e2 : Sg.a L.at = look L.sto := funext fun s => (SSto.look L s).symm
    rw [← e2]
    refine resS_av hl ?_
    obtain ⟨u, h1, h2⟩ := mapS_av (fun x ps y => snapS_av) hm (fun p hpp => hp p (List.mem_append_left _ hpp))
    refine ⟨u, h1, ?_⟩
    have h3 := eqv_rel (m := fun _ => none) 3 r (outS m) qs [] he (fun p hpp => hp p (List.mem_append_right _ hpp)) (fun q hq => by cases hq)
    rw [hr] at h3
    unfold relV at h3
    have h4 : (outS m).av = .p (outP u) := by
      cases m with
      | nil =>
        have : u = [] := by
          have := congrArg List.length h2
          simp [avs] at this
          exact List.length_eq_zero_iff.1 (by omega)
        subst this; rfl
      | cons x m =>
        cases m with
        | nil =>
          cases u with
          | nil => simp [avs] at h2
          | cons y u =>
            have h5 : u = [] := by
              have := congrArg List.length h2
              simp only [avs, List.map_cons, List.length_cons, List.length_nil, List.length_map] at this
              exact List.length_eq_zero_iff.1 (by omega)
            subst h5
            simp only [avs, List.map_cons, List.map_nil, List.cons.injEq, and_true] at h2
            exact h2
        | cons y m =>
          have h5 : (outS (x :: y :: m)).av = mkTup (avs (x :: y :: m)) := rfl
          rw [h5, h2]
          unfold mkTup
          rw [allP_mapp]
          cases u with
          | nil => simp [avs] at h2
          | cons a u =>
            cases u with
            | nil => simp [avs] at h2
            | cons b u => rfl
    rw [h4] at h3
    cases h3; rfl
  cases e <;> first | exact h.elim | exact key h
structure Ar (α : Type) where
  enc : α → SV
  dec : SV → Option α
  ok : ∀ s a, dec s = some a → s.av = (enc a).av
  pl : ∀ a, ∃ q, (enc a).av = .p q
structure Arl (α : Type) where
  enc : α → List SV
  dec : List SV → Option α
  ok : ∀ s a, dec s = some a → avs s = avs (enc a)
  pl : ∀ a, ∃ q : List PV, avs (enc a) = q.map .p
def a0 : Arl Unit := ⟨fun _ => [], fun l => match l with | [] => some () | _ => none, fun s _ h => (by cases s with | nil => rfl | cons x l => cases h), fun _ => ⟨[], rfl⟩⟩
def a1 {α : Type} (A : Ar α) : Arl α := ⟨fun a => [A.enc a], fun l => match l with | [x] => A.dec x | _ => none, fun s a h => by
    match s, h with
    | [x], h => simp only [avs, A.ok x a h],
  fun a => by obtain ⟨q, h⟩ := A.pl a; exact ⟨[q], by simp only [avs, h, List.map_cons, List.map_nil]⟩⟩
def ac {α β : Type} (A : Ar α) (B : Arl β) : Arl (α × β) := ⟨fun a => A.enc a.1 :: B.enc a.2, fun l => match l with
    | x :: r => (match A.dec x, B.dec r with | some a, some b => some (a, b) | _, _ => none)
    | _ => none, fun s a h => by
    match s, h with
    | x :: r, h =>
      dsimp only at h
      split at h <;> cases h
      rename_i a b h1 h2
      simp only [avs, A.ok x a h1, B.ok r b h2],
  fun a => by
    obtain ⟨q, h⟩ := A.pl a.1
    obtain ⟨r, k⟩ := B.pl a.2
    exact ⟨q :: r, by simp only [avs, h, k, List.map_cons]⟩⟩
def aI : Ar Int := ⟨fun n => .int .i64 n, fun s => match s with | .int .i64 n => some n | _ => none, fun _ _ h => by
    (split at h <;> cases h; rfl), fun _ => ⟨_, rfl⟩⟩
def aN : Ar Nat := ⟨fun n => .int .i64 (n : Int), fun s => match s with | .int .i64 (.ofNat n) => some n | _ => none, fun _ _ h => by
    (split at h <;> cases h; rfl), fun _ => ⟨_, rfl⟩⟩
def aB : Ar Bool := ⟨fun b => .bool b, boolS, fun _ _ h => boolS_av h, fun _ => ⟨_, rfl⟩⟩
def aV : Ar Geo.V := ⟨fun v => .agg [.int .i64 v.x, .int .i64 v.y], fun s => match s with | .agg [.int .i64 x, .int .i64 y] => some ⟨x, y⟩ | _ => none, fun _ _ h => by
    (split at h <;> cases h; rfl), fun _ => ⟨_, rfl⟩⟩
def aS : Ar Geo.S := ⟨fun s => .agg [.int .i64 s.a.x, .int .i64 s.a.y, .int .i64 s.b.x, .int .i64 s.b.y], fun s => match s with | .agg [.int .i64 x, .int .i64 y, .int .i64 z, .int .i64 w] => some ⟨⟨x, y⟩, ⟨z, w⟩⟩ | _ => none, fun _ _ h => by
    (split at h <;> cases h; rfl), fun _ => ⟨_, rfl⟩⟩
def aT : Ar Geo.Pt := ⟨fun p => .agg [.int .i64 p.x, .int .i64 p.y, .int .i64 p.den], fun s => match s with | .agg [.int .i64 x, .int .i64 y, .int .i64 z] => some ⟨x, y, z⟩ | _ => none, fun _ _ h => by
    (split at h <;> cases h; rfl), fun _ => ⟨_, rfl⟩⟩
def lstD (t : LT) (s : SV) : Option (List t.ty) := match s with
  | .lst t' l => (match decEq t' t with | .isTrue h => some (h ▸ l) | .isFalse _ => none)
  | .sl 0 [] => some []
  | .sl n cs => t.decs n cs
  | _ => none
theorem lstD_av {t : LT} {s : SV} {l : List t.ty} (h : lstD t s = some l) : s.av = .p (.sl l.length (t.enc l)) := by
  unfold lstD at h
  split at h
  · rename_i t' l'
    split at h
    · rename_i e _; subst e; cases h; rfl
    · cases h
  · cases h; rfl
  · rename_i n cs _
    obtain ⟨e1, e2⟩ := LT.decs_av h
    show (match allP (avs cs) with | some q => AV.p (.sl n q) | none => .any) = _
    rw [e2, allP_mapp, e1]
  · cases h
def aL (t : LT) : Ar (List t.ty) := ⟨fun l => .lst t l, lstD t, fun _ _ h => lstD_av h, fun _ => ⟨_, rfl⟩⟩
def shD (s : SV) : Option Geo.Shape := match s with
  | .agg [r, h] => (match lstD .V r, lstD .R h with | some o, some hs => some ⟨o, hs⟩ | _, _ => none)
  | _ => none
theorem shD_av (s : SV) (a : Geo.Shape) (h : shD s = some a) : s.av = (SV.agg [.lst .V a.outer, .lst .R a.holes]).av := by
  unfold shD at h
  split at h
  · rename_i r h'
    split at h <;> cases h
    rename_i o hs h1 h2
    simp only [SV.av, avs, lstD_av h1, lstD_av h2]
  · cases h
def aSh : Ar Geo.Shape := ⟨fun s => .agg [.lst .V s.outer, .lst .R s.holes], shD, shD_av, fun _ => ⟨_, rfl⟩⟩
def con {α : Type} (A : Arl α) (pre : α → List Prop) (res : α → SV) : Con := ⟨α, A.dec, pre, .val false res⟩
def argF (l : List SV) : Nat → Frm
  | k => match l with
    | [] => []
    | x :: l => (k, x) :: argF l (k + 1)
def walkQ (X : Cx) (raw : Nat → Nat → Bool) (f : Nat) (ann : List (Nat × Ann)) (args : List SV) (post : Nat → List ResultVar → SPost) : Fm := match okFn X.P f, X.P.funcs[f]? with
  | true, some fn => (match fn.body with
    | some c => (match Nat.ble args.length fn.ntmps, allB (fun v => match v.ape with | true => false | false => true) args with
      | true, true => vc X fn.ntmps raw c (fun _ => true) ann (post fn.ntmps fn.results.toList) (argF args 0) [] 0
      | _, _ => .stuck 950000)
    | none => .stuck 960000)
  | _, _ => .stuck 970000
def walk (X : Cx) (raw : Nat → Nat → Bool) (f : Nat) (ann : List (Nat × Ann)) (args : List SV) (r : SV) : Fm := walkQ X raw f ann args fun n rs => retS X.P n rs r
theorem argF_at : ∀ (l : List SV) (k t : Nat), (argF l k).at t = if k ≤ t then (match l[t - k]? with | some x => x | none => .undef) else .undef
  | [], k, t => by simp [argF, Frm.at]
  | x :: l, k, t => by
    unfold argF
    rw [Frm.at_cons, argF_at l (k + 1) t]
    by_cases h : t = k
    · subst h; simp
    · rw [if_neg h]
      by_cases h2 : k ≤ t
      · rw [if_pos h2, if_pos (by omega)]
        rw [show t - k = (t - (k + 1)) + 1 by omega]
        simp
      · rw [if_neg h2, if_neg (by omega)]
theorem argF_av {l : List SV} {A : List PV} {n : Nat} (h : avs l = A.map .p) (hn : l.length ≤ n) : (argF l 0).av n = A.map .p ++ List.replicate (n - A.length) .undef := by
  have hl : l.length = A.length := by have := congrArg List.length h; simpa [avs_length] using this
  apply List.ext_getElem?
  intro i
  unfold Frm.av
  rw [List.getElem?_map]
  by_cases hi : i < n
  · rw [List.getElem?_range hi, Option.map_some, argF_at, if_pos (Nat.zero_le _), Nat.sub_zero]
    by_cases h2 : i < A.length
    · rw [List.getElem?_append_left (by simpa using h2), ← h, avs_get]
      rw [List.getElem?_eq_getElem (by omega)]; rfl
    · rw [List.getElem?_append_right (by simp; omega), List.getElem?_replicate, if_pos (by simp; omega), List.getElem?_eq_none (by omega)]; rfl
  · rw [List.getElem?_eq_none (by simp; omega), List.getElem?_eq_none (by simp; omega)]; rfl
theorem walkQ_ok {X : Cx} (hX : X.Ok) {raw : Nat → Nat → Bool} {f : Nat} {ann : List (Nat × Ann)} {args : List SV} {post : Nat → List ResultVar → SPost} {A : List PV} {Q : List ResultVar → APost} (hA : avs args = A.map .p)
    (hQ : ∀ n rs e (F : Frm) (L : SSto) N, (post n rs e F L N).holds → Q rs e (F.av n) L.sto N) (h : (walkQ X raw f ann args post).holds) :
    okFn X.P f = true ∧ ∃ fn c, X.P.funcs[f]? = some fn ∧ fn.body = some c ∧ awp X.P c (Q fn.results.toList) (A.map .p ++ List.replicate (fn.ntmps - A.length) .undef) [] 0 := by
  unfold walkQ at h
  split at h
  case h_2 => exact h.elim
  rename_i fn hok hf
  split at h
  case h_2 => exact h.elim
  rename_i c hb
  split at h
  case h_2 => exact h.elim
  rename_i hn hpe
  have hpe := allB_iff hpe
  have hn := Nat.le_of_ble_eq_true hn
  refine ⟨hok, fn, c, hf, hb, ?_⟩
  rw [← argF_av hA hn]
  have hF : (argF args 0).ok := by
    intro t
    rw [argF_at, if_pos (Nat.zero_le _)]
    split
    · rename_i x hx
      have := hpe x (List.mem_of_getElem? hx)
      refine SV.ok_of ?_
      cases hh : x.ape with
      | true => rw [hh] at this; cases this
      | false => rfl
    · trivial
  refine awp_mono c ?_ (vc_sound hX c (fun _ => true) ann _ _ [] 0 (fun _ _ => rfl) hF h)
  rintro e FA LA N' ⟨F', L', rfl, rfl, _, _, _, hh⟩
  exact hQ _ _ _ _ _ _ hh
theorem walk_sat {X : Cx} (hX : X.Ok) {raw : Nat → Nat → Bool} {f : Nat} {ann : List (Nat × Ann)} {args : List SV} {r : SV} {A : List PV} {q : PV} (hA : avs args = A.map .p) (hq : r.av = .p q) (h : (walk X raw f ann args r).holds) : Sat X.P false f A q := by
  obtain ⟨hok, fn, c, hf, hb, hw⟩ := walkQ_ok hX (Q := fun rs => retP X.P rs q) hA (fun n rs e F L N hh => retS_ok hq hh) h
  exact sat_of_awp hok hf hb hw
def endO (P : Program) (n : Nat) (rs : List ResultVar) (ty : Nat) (t : LT) (l : List t.ty) (ys : List SV) (F : Frm) (L : SSto) : Fm := match resS P n F L.at rs with
  | some (v :: r) => (match eqvs (eqv 3) ys r with
    | some (qs, []) => (match v with
      | .nil => needs ((l = []) :: qs) .tt
      | .own s _ k => (match L.at s with
        | some (.row ty' t' l') => (match Nat.beq ty' ty, decEq t' t with
          | true, .isTrue h => needs ([(h ▸ l' : List t.ty) = l, k = l'.length] ++ qs) .tt
          | _, _ => .stuck 980001)
        | _ => .stuck 980002)
      | _ => .stuck 980003)
    | _ => .stuck 980004)
  | _ => .stuck 980005
def retOS (P : Program) (ty : Nat) (t : LT) (l : List t.ty) (ys : List SV) (n : Nat) (rs : List ResultVar) : SPost := fun e F L _ => match e with
  | .normal => endO P n rs ty t l ys F L
  | .ret => endO P n rs ty t l ys F L
  | _ => .stuck 910000
theorem relVs_pp {m : Rf} : ∀ {q : List PV} {r : List AV}, relVs m (q.map .p) r → r = q.map .p
  | [], r, h => by rw [List.map_nil] at h; unfold relVs at h; exact h
  | x :: q, r, h => by
    rw [List.map_cons] at h; unfold relVs at h
    obtain ⟨y, r', rfl, h1, h2⟩ := h
    unfold relV at h1
    rw [h1, relVs_pp h2]; rfl
theorem retOS_ok {P : Program} {n : Nat} {rs : List ResultVar} {ty : Nat} {t : LT} {l : List t.ty} {ys : List SV} {Y : List PV} (hY : avs ys = Y.map .p) {e : Exit} {F : Frm} {L : SSto} {N : Nat} (h : (retOS P ty t l ys n rs e F L N).holds) : retO P rs ty t.w (t.enc l) l.length Y e (F.av n) L.sto N := by
  have key : (endO P n rs ty t l ys F L).holds → resA P rs (F.av n) (look L.sto) fun lA => (∃ s, lA = .own s 0 l.length :: Y.map .p ∧ look L.sto s = some ⟨ty, t.w, (t.enc l).map .p⟩) ∨ (lA = .nil :: Y.map .p ∧ l.length = 0 ∧ t.enc l = []) := by
    intro h
    unfold endO at h
    split at h
    case h_2 => exact h.elim
    rename_i v r hl
    split at h
    case h_2 => exact h.elim
    rename_i qs he
    have e2 : Sg.a L.at = look L.sto := funext fun s => (SSto.look L s).symm
    have hr : (∀ p ∈ qs, p) → avs r = Y.map .p := fun hp => by
      have := eqvs_rel (m := fun _ => none) (eqv_rel 3) he hp (fun q hq => by cases hq)
      rw [hY] at this
      exact relVs_pp this
    rw [← e2]
    refine resS_av hl ?_
    split at h
    · have hp := (needs_holds h).1
      have hl0 : l = [] := hp _ List.mem_cons_self
      subst hl0
      refine .inr ⟨?_, rfl, rfl⟩
      show AV.nil :: avs r = _
      rw [hr fun p hpp => hp p (List.mem_cons_of_mem _ hpp)]
    · rename_i s t2 k
      split at h
      case h_2 => exact h.elim
      rename_i ty' t' l' hs
      split at h
      case h_2 => exact h.elim
      rename_i h2 hty _
      subst h2
      have hp := (needs_holds h).1
      have h3 : l' = l := hp _ (List.mem_append_left _ List.mem_cons_self)
      have h4 : k = l'.length := hp _ (List.mem_append_left _ (List.mem_cons_of_mem _ List.mem_cons_self))
      subst h3
      refine .inl ⟨s, ?_, ?_⟩
      · show AV.own s 0 k :: avs r = _
        rw [hr fun p hpp => hp p (List.mem_append_right _ hpp), h4]
      · unfold Sg.a; rw [hs, ← Nat.eq_of_beq_eq_true hty]; rfl
    · exact h.elim
  cases e <;> first | exact h.elim | exact key h
def conO {α : Type} (A : Arl α) (pre : α → List Prop) (ty : Nat) (t : LT) (l : α → List t.ty) (ys : α → List SV) : Con := ⟨α, A.dec, pre, .own ty t l ys⟩
theorem con_okO {X : Cx} (hX : X.Ok) {raw : Nat → Nat → Bool} {f : Nat} {α : Type} {A : Arl α} {pre : α → List Prop} {ty : Nat} {t : LT} {l : α → List t.ty} {ys : α → List SV} (ann : α → List (Nat × Ann)) (hr : ∀ x, ∃ q : List PV, avs (ys x) = q.map .p)
    (h : ∀ x, andL (pre x) → (walkQ X raw f (ann x) (A.enc x) (retOS X.P ty t (l x) (ys x))).holds) : (conO A pre ty t l ys).Ok X.P f := by
  intro s x hd hp
  obtain ⟨B, hB⟩ := A.pl x
  obtain ⟨q, hq⟩ := hr x
  obtain ⟨hok, fn, c, hf, hb, hw⟩ := walkQ_ok hX (Q := fun rs => retO X.P rs ty t.w (t.enc (l x)) (l x).length q) hB (fun n rs e F L N hh => retOS_ok hq hh) (h x (andL_iff.2 hp))
  exact ⟨B, q, by rw [A.ok s x hd, hB], hq, sato_of_awp hok (Nat.ne_of_gt t.w_pos) hf hb hw⟩
theorem con_ok {X : Cx} (hX : X.Ok) {raw : Nat → Nat → Bool} {f : Nat} {α : Type} {A : Arl α} {pre : α → List Prop} {res : α → SV} (ann : α → List (Nat × Ann)) (hr : ∀ x, ∃ q, (res x).av = .p q) (h : ∀ x, andL (pre x) → (walk X raw f (ann x) (A.enc x) (res x)).holds) : (con A pre res).Ok X.P f := by
  intro s x hd hp
  obtain ⟨B, hB⟩ := A.pl x
  obtain ⟨q, hq⟩ := hr x
  exact ⟨B, q, by rw [A.ok s x hd, hB], hq, walk_sat hX hB hq (h x (andL_iff.2 hp))⟩
def noRaw : Nat → Nat → Bool := fun _ _ => false
theorem by_vc {p q : Prop} (h : p = q) (hq : q) : p := h ▸ hq
def tabL : List (Nat × Con) → Tab → Tab
  | [], T, f => T f
  | (k, c) :: l, T, f => match Nat.beq f k with | true => some c | false => tabL l T f
def AllOk (P : Program) : List (Nat × Con) → Prop
  | [] => True
  | q :: l => q.2.Ok P q.1 ∧ AllOk P l
theorem tabL_ok {P : Program} {T : Tab} (hT : T.Ok P) : ∀ {l : List (Nat × Con)}, AllOk P l → (tabL l T).Ok P
  | [], _ => hT
  | (k, c) :: l, h => by
    intro f d hd
    unfold tabL at hd
    split at hd
    · rename_i e; cases hd; rw [Nat.eq_of_beq_eq_true e]; exact h.1
    · exact tabL_ok hT h.2 f d hd
def tab0 : Tab := fun _ => none
theorem tab0_ok {P : Program} : tab0.Ok P := fun _ _ h => by cases h
end Go.Proofs.YtdaeofhdgabhjaaGreat
namespace Go.Proofs.YtdaeofhdgabhjaaGreat
open Go.RowKit
set_option maxRecDepth 100000 in
theorem eqV44 (N : Nat) (a b c d : Int) (w : World) : Sem.run Tryz.prog (Op.equalIn (N + 1 + 1) 44 (.agg #[.int .i64 a, .int .i64 b]) (.agg #[.int .i64 c, .int .i64 d])) w = .ok (a == c && b == d) w := by
  have u3 := Tryz.underlying3
  have a3 := Tryz.isAgg3
  have z3 := Tryz.sizeOf3
  have hS : Tryz.prog.underlying 44 = some (.struct (Tryz.prog.fieldsOf 44)) := by kernel_rfl
  have hp : Tryz.prog.stoodInHeld 44 = false := by kernel_rfl
  rw [run_equalIn_agg w (N + 1) 44 _ _ hS hp]
  simp only [Program.fieldsOf, Tryz.underlying44]
  go_simp
  by_cases h1 : a = c <;> by_cases h2 : b = d <;> simp [h1, h2]
set_option maxRecDepth 100000 in
theorem eqS46 (a b c d a' b' c' d' : Int) (w : World) (N : Nat) : Sem.run Tryz.prog (Op.equalIn (N + 1 + 1 + 1) 46 (.agg #[.int .i64 a, .int .i64 b, .int .i64 c, .int .i64 d]) (.agg #[.int .i64 a', .int .i64 b', .int .i64 c', .int .i64 d'])) w = .ok ((a == a' && b == b') && (c == c' && d == d')) w := by
  have hS6 : Tryz.prog.underlying 46 = some (.struct (Tryz.prog.fieldsOf 46)) := by kernel_rfl
  have hp6 : Tryz.prog.stoodInHeld 46 = false := by kernel_rfl
  rw [run_equalIn_agg w (N + 1 + 1) 46 _ _ hS6 hp6]
  unfold Program.fieldsOf
  rw [Tryz.underlying46]
  dsimp only
  have a44 := Tryz.isAgg44
  have z44 := Tryz.sizeOf44
  have p1 : ∀ a b c d : Int, (part 44 #[Value.int .i64 a, Value.int .i64 b, Value.int .i64 c, Value.int .i64 d] 0).run Tryz.prog w = .ok (.agg #[.int .i64 a, .int .i64 b]) w := by
    intro a b c d; simp [part, a44, z44]
  have p2 : ∀ a b c d : Int, (part 44 #[Value.int .i64 a, Value.int .i64 b, Value.int .i64 c, Value.int .i64 d] 2).run Tryz.prog w = .ok (.agg #[.int .i64 c, .int .i64 d]) w := by
    intro a b c d; simp [part, a44, z44]
  have hE := eqV44 N
  generalize N + 1 + 1 = M at hE ⊢
  unfold Op.eqFields
  unfold Op.eqFields
  unfold Op.eqFields
  rw [if_pos (by decide)]
  simp only [Sem.run_bind, p1, Result.andThen_ok, hE]
  cases h1 : (a == a') <;> cases h2 : (b == b') <;> simp [hE, p2, Sem.run_bind, Result.andThen_ok]
  by_cases h3 : c = c' <;> by_cases h4 : d = d' <;> simp [h3, h4]
set_option maxRecDepth 100000 in
theorem eqInts46 : EqInts Tryz.prog 46 4 := by
  intro xs ys x y w hx hy
  match xs, ys, hx, hy with
  | [a, b, c, d], [a', b', c', d'], _, _ =>
    have h1 := eqS46 a b c d a' b' c' d' w 9997
    rw [show 9997 + 1 + 1 + 1 = 10000 from rfl] at h1
    have e : (([a, b, c, d] : List Int) == [a', b', c', d']) = ((a == a' && b == b') && (c == c' && d == d')) := by
      rw [Bool.eq_iff_iff]; simp [and_assoc]
    refine ⟨?_, ?_⟩
    · simp only [List.map_cons, List.map_nil]
      rw [e]
      simp only [eqGuard, Sem.run_bind]
      simp [Result.andThen]
      rw [run_eql_struct, h1]
      simp [Result.andThen]
    · simp only [List.map_cons, List.map_nil]
      unfold bne
      rw [e]
      simp [eqGuard]
      rw [run_neq_struct, h1]
      simp [Result.andThen]
def ltL : List (Nat × LT) → Nat → Option LT
  | [], _ => none
  | (k, x) :: l, t => match Nat.beq t k with | true => some x | false => ltL l t
noncomputable def cx (T : Tab) : Cx := ⟨Tryz.prog, T, ltL [(44, .V), (46, .S), (23, .R), (67, .P), (3, .I), (2, .I), (1, .I), (4, .B)], [(44, 2), (46, 4)]⟩
theorem cx_ok {T : Tab} (h : T.Ok Tryz.prog) : (cx T).Ok := ⟨h, fun t m hm => by
  have hm : (t, m) ∈ [(44, 2), (46, 4)] := hm
  rcases List.mem_cons.1 hm with h | h
  · cases h; exact eqInts44
  · rw [List.mem_singleton] at h
    cases h; exact eqInts46⟩
def natAt (F : Frm) (d : Nat) : Option Nat := match F.at d with
  | .int _ v => some v.toNat
  | _ => none
def intAt (F : Frm) (d : Nat) : Option Int := match F.at d with
  | .int _ v => some v
  | _ => none
def int2 (F : Frm) (d e : Nat) : Option (Int × Int) := match intAt F d, intAt F e with
  | some x, some y => some (x, y)
  | _, _ => none
def lp (key d n : Nat) (I : Nat → List Prop) (rk : List Nat) (upd : Nat → Frm) (obs : Nat → List (Nat × SOb)) (inner : Nat → List (Nat × Ann) := fun _ => []) : Nat × Ann :=
  (key, .mk Nat (fun F _ => natAt F d) rk (fun k => (k ≤ n) :: I k) (fun k => (d, .int .i64 (k : Int)) :: upd k) obs (fun k => n - k) inner)
def cnt (key d n : Nat) (I : Nat → Prop) (inner : Nat → List (Nat × Ann) := fun _ => []) : Nat × Ann := lp key d n (fun k => [I k]) [] (fun _ => []) (fun _ => []) inner
def jb (key d : Nat) (b : Bool) : Nat × Ann := (key + 10000, .mk Unit (fun _ _ => some ()) [] (fun _ => []) (fun _ => [(d, .bool b)]) (fun _ => []) (fun _ => 0) (fun _ => []))
def jP (key : Nat) (I : List Prop) : Nat × Ann := (key + 10000, .mk Unit (fun _ _ => some ()) [] (fun _ => I) (fun _ => []) (fun _ => []) (fun _ => 0) (fun _ => []))
def jU (key : Nat) (u : Frm) : Nat × Ann := (key + 10000, .mk Unit (fun _ _ => some ()) [] (fun _ => []) (fun _ => u) (fun _ => []) (fun _ => 0) (fun _ => []))
def jN (key d : Nat) (I : Nat → List Prop) (inner : Nat → List (Nat × Ann) := fun _ => []) : Nat × Ann := (key + 10000, .mk Nat (fun F _ => natAt F d) [] I (fun k => [(d, .int .i64 (k : Int))]) (fun _ => []) (fun _ => 0) inner)
def jR (key d s ty : Nat) (t : LT) (l : List t.ty) : Nat × Ann := (key + 10000, .mk Unit (fun _ _ => some ()) [s] (fun _ => []) (fun _ => [(d, .own s t l.length)]) (fun _ => [(s, .row ty t l)]) (fun _ => 0) (fun _ => []))
def lU (key k : Nat) : Nat × Ann := (key + 30000 + k, .mk Unit (fun _ _ => none) [] (fun _ => []) (fun _ => []) (fun _ => []) (fun _ => 0) (fun _ => []))
def upto (q : Nat → Prop) (k : Nat) : Prop := ∀ j, j < k → q j
theorem nb {b : Bool} (h : (!b) = false) : b = true := by cases b <;> simp_all
theorem nb' {b : Bool} (h : (!b) = true) : b = false := by cases b <;> simp_all
theorem upto_zero (q : Nat → Prop) : upto q 0 := fun j h => absurd h (Nat.not_lt_zero j)
theorem upto_succ {q : Nat → Prop} {k : Nat} (h : upto q k) (hk : q k) : upto q (k + 1) := fun j hj => by
  rcases Nat.lt_or_ge j k with h1 | h1
  · exact h j h1
  · rw [show j = k by omega]; exact hk
theorem tab0o : tab0.Ok Tryz.prog := tab0_ok
theorem V_eq (a b : Geo.V) : a = b ↔ a.x = b.x ∧ a.y = b.y := by
  cases a; cases b; simp only [Geo.V.mk.injEq]
end Go.Proofs.YtdaeofhdgabhjaaGreat
namespace Go.Proofs.YtdaeofhdgabhjaaGreat
open Go.RowKit
set_option maxRecDepth 100000
noncomputable section
open Geo (nth)
theorem mul_bd {x y A B : Int} (hx : -A ≤ x ∧ x ≤ A) (hy : -B ≤ y ∧ y ≤ B) : -(A * B) ≤ x * y ∧ x * y ≤ A * B := by
  have h1 : 0 ≤ (A - x) * (B - y) := Int.mul_nonneg (by omega) (by omega)
  have h2 : 0 ≤ (A + x) * (B + y) := Int.mul_nonneg (by omega) (by omega)
  have h3 : 0 ≤ (A - x) * (B + y) := Int.mul_nonneg (by omega) (by omega)
  have h4 : 0 ≤ (A + x) * (B - y) := Int.mul_nonneg (by omega) (by omega)
  constructor <;> grind
def bd (M : Int) (v : Geo.V) : Prop := (-M ≤ v.x ∧ v.x ≤ M) ∧ -M ≤ v.y ∧ v.y ≤ M
theorem bd_of {m M : Int} {v : Geo.V} (h : Geo.within v m = true) (hm : m ≤ M := by decide) : bd M v := by
  unfold Geo.within at h; unfold bd
  simp only [Bool.and_eq_true, decide_eq_true_eq] at h; omega
theorem bd.mono {m M : Int} {v : Geo.V} (h : bd m v) (hm : m ≤ M := by decide) : bd M v := by unfold bd at *; omega
theorem cross_bd {M : Int} {a b : Geo.V} (ha : bd M a) (hb : bd M b) : (-(M * M) ≤ a.x * b.y ∧ a.x * b.y ≤ M * M) ∧ -(M * M) ≤ a.y * b.x ∧ a.y * b.x ≤ M * M := ⟨mul_bd ha.1 hb.2, mul_bd ha.2 hb.1⟩
theorem sub_bd {m : Int} {a b : Geo.V} (ha : bd m a) (hb : bd m b) : bd (m + m) (Geo.sub a b) := by unfold bd Geo.sub at *; dsimp only; omega
theorem sgn_bd (n : Int) : -1 ≤ Geo.sgn n ∧ Geo.sgn n ≤ 1 := by unfold Geo.sgn; grind
theorem i64w {x : Int} (h : -9000000000000000000 ≤ x ∧ x ≤ 9000000000000000000) : in64 x := by unfold in64; omega
def c149 : Con := con (ac aV (a1 aV)) (fun (_, _) => []) (fun (a, b) => .bool (Geo.lessV a b)
  )
theorem k149 : c149.Ok Tryz.prog 149 := con_ok (cx_ok tab0o) (raw := noRaw) (fun (_, _) => []) (fun (_, _) => ⟨_, rfl⟩) fun (a, b) _ => by_vc (q := (a.y < b.y → true = Geo.lessV a b) ∧
 (¬ a.y < b.y → (a.y = b.y → decide (a.x < b.x) = Geo.lessV a b) ∧
  (¬ a.y = b.y → false = Geo.lessV a b))) (by kernel_rfl) (by
  unfold Geo.lessV; grind)
def t149 : Tab := tabL [(149, c149)] tab0
theorem t149o : t149.Ok Tryz.prog := tabL_ok tab0o ⟨k149, trivial⟩
def c80 : Con := con (a1 aI) (fun _ => []) (fun n => .int .i64 (Geo.sgn n)
  )
theorem k80 : c80.Ok Tryz.prog 80 := con_ok (cx_ok t149o) (raw := noRaw) (fun _ => []) (fun _ => ⟨_, rfl⟩) fun n _ => by_vc (q := (0 < n → 1 = Geo.sgn n) ∧
 (¬ 0 < n → (n < 0 → -1 = Geo.sgn n) ∧
  (¬ n < 0 → 0 = Geo.sgn n))) (by kernel_rfl) (by
  unfold Geo.sgn; grind)
def t80 : Tab := tabL [(80, c80)] t149
theorem t80o : t80.Ok Tryz.prog := tabL_ok t149o ⟨k80, trivial⟩
def c79 : Con := con (ac aV (a1 aV)) (fun (_, _) => []) (fun (a, b) => .int .i64 (Geo.cmpV a b)
  )
theorem k79 : c79.Ok Tryz.prog 79 := con_ok (cx_ok t80o) (raw := noRaw) (fun (_, _) => []) (fun (_, _) => ⟨_, rfl⟩) fun (a, b) _ => by_vc (q := (Geo.lessV a b = true → -1 = Geo.cmpV a b) ∧
 (Geo.lessV a b = false → (a = b → 0 = Geo.cmpV a b) ∧
  (¬ a = b → 1 = Geo.cmpV a b))) (by kernel_rfl) (by
  unfold Geo.cmpV Geo.cmpI Geo.lessV; simp only [V_eq]; grind)
def t79 : Tab := tabL [(79, c79)] t80
theorem t79o : t79.Ok Tryz.prog := tabL_ok t80o ⟨k79, trivial⟩
def c35 : Con := con (ac aV (a1 aI)) (fun (_, m) => [0 ≤ m, m ≤ 1000000000000]) (fun (a, m) => .bool (Geo.within a m)
  )
theorem k35 : c35.Ok Tryz.prog 35 := con_ok (cx_ok t79o) (raw := noRaw) (fun (_, _) => []) (fun (_, _) => ⟨_, rfl⟩) fun (a, m) hp => by_vc (q := in64 (0 - m) ∧ (0 - m ≤ a.x → (a.x ≤ m → in64 (0 - m) ∧ (0 - m ≤ a.y → decide (a.y ≤ m) = Geo.within a m) ∧
   (¬ 0 - m ≤ a.y → false = Geo.within a m)) ∧
  (¬ a.x ≤ m → false = Geo.within a m)) ∧
 (¬ 0 - m ≤ a.x → false = Geo.within a m)) (by kernel_rfl) (by
  change 0 ≤ m ∧ m ≤ 1000000000000 at hp
  unfold Geo.within; have := @in64; grind [in64])
def t35 : Tab := tabL [(35, c35)] t79
theorem t35o : t35.Ok Tryz.prog := tabL_ok t79o ⟨k35, trivial⟩
def c98 : Con := con (a1 aS) (fun _ => []) (fun s => .bool (Geo.validS s)
  )
theorem k98 : c98.Ok Tryz.prog 98 := con_ok (cx_ok t35o) (raw := noRaw) (fun _ => []) (fun _ => ⟨_, rfl⟩) fun s _ => by_vc (q := (0 : Int) ≤ 4000 ∧ (4000 : Int) ≤ 1000000000000 ∧ (Geo.within s.a 4000 = true → (0 : Int) ≤ 4000 ∧ (4000 : Int) ≤ 1000000000000 ∧ Geo.within s.b 4000 = Geo.validS s) ∧
 (Geo.within s.a 4000 = false → false = Geo.validS s)) (by kernel_rfl) (by
  unfold Geo.validS; grind)
def t98 : Tab := tabL [(98, c98)] t35
theorem t98o : t98.Ok Tryz.prog := tabL_ok t35o ⟨k98, trivial⟩
def c104 : Con := con (a1 aV) (fun _ => []) (fun v => (aT).enc (Geo.ptOf v)
  )
theorem k104 : c104.Ok Tryz.prog 104 := con_ok (cx_ok t98o) (raw := noRaw) (fun _ => []) (fun _ => ⟨_, rfl⟩) fun v _ => by_vc (q := v.x = (Geo.ptOf v).x ∧ v.y = (Geo.ptOf v).y ∧ 1 = (Geo.ptOf v).den) (by kernel_rfl) (by
  exact ⟨rfl, rfl, rfl⟩)
def t104 : Tab := tabL [(104, c104)] t98
theorem t104o : t104.Ok Tryz.prog := tabL_ok t98o ⟨k104, trivial⟩
def c144 : Con := con (ac aV (a1 aV)) (fun (a, b) => [bd 2000000000 a, bd 2000000000 b]) (fun (a, b) => .int .i64 (Geo.cross a b)
  )
theorem k144 : c144.Ok Tryz.prog 144 := con_ok (cx_ok t104o) (raw := noRaw) (fun (_, _) => []) (fun (_, _) => ⟨_, rfl⟩) fun (a, b) hp => by_vc (q := in64 (a.x * b.y) ∧ in64 (a.y * b.x) ∧ in64 (a.x * b.y - a.y * b.x) ∧ a.x * b.y - a.y * b.x = Geo.cross a b) (by kernel_rfl) (by
  change bd 2000000000 a ∧ bd 2000000000 b at hp
  have := cross_bd hp.1 hp.2
  exact ⟨i64w (by omega), i64w (by omega), i64w (by omega), rfl⟩)
def t144 : Tab := tabL [(144, c144)] t104
theorem t144o : t144.Ok Tryz.prog := tabL_ok t104o ⟨k144, trivial⟩
def c145 : Con := con (ac aV (a1 aV)) (fun (a, b) => [bd 1000000000 a, bd 1000000000 b]) (fun (a, b) => aV.enc (Geo.sub a b)
  )
theorem k145 : c145.Ok Tryz.prog 145 := con_ok (cx_ok t144o) (raw := noRaw) (fun (_, _) => []) (fun (_, _) => ⟨_, rfl⟩) fun (a, b) hp => by_vc (q := in64 (a.x - b.x) ∧ in64 (a.y - b.y) ∧ a.x - b.x = (Geo.sub a b).x ∧ a.y - b.y = (Geo.sub a b).y) (by kernel_rfl) (by
  change bd 1000000000 a ∧ bd 1000000000 b at hp
  unfold bd at hp
  exact ⟨i64w (by omega), i64w (by omega), rfl, rfl⟩)
def t145 : Tab := tabL [(145, c145)] t144
theorem t145o : t145.Ok Tryz.prog := tabL_ok t144o ⟨k145, trivial⟩
theorem vS_bd {s : Geo.S} (h : (!Geo.validS s) = false) {M : Int} (hM : 4000 ≤ M := by decide) : bd M s.a ∧ bd M s.b := by
  unfold Geo.validS at h
  simp only [Bool.not_eq_false', Bool.and_eq_true] at h
  exact ⟨bd_of h.1 hM, bd_of h.2 hM⟩
theorem inB_bd {s : Geo.S} {p : Geo.V} {M : Int} (h1 : bd M s.a ∧ bd M s.b) (h : Geo.inBox s p = true) : bd M p := by
  unfold Geo.inBox at h; unfold bd at *
  simp only [Bool.and_eq_true, decide_eq_true_eq] at h; omega
theorem sideR_bd (s : Geo.S) (p : Geo.V) : -1 ≤ Geo.sideR s p ∧ Geo.sideR s p ≤ 1 := by
  unfold Geo.sideR Geo.turn
  split
  · omega
  · exact sgn_bd _
def c70 : Con := con (ac aV (ac aV (a1 aV))) (fun (a, b, c) => [bd 1000000000 a, bd 1000000000 b, bd 1000000000 c]) (fun (a, b, c) => .int .i64 (Geo.turn a b c)
  )
theorem k70 : c70.Ok Tryz.prog 70 := con_ok (cx_ok t145o) (raw := noRaw) (fun (_, _, _) => []) (fun (_, _, _) => ⟨_, rfl⟩) fun (a, b, c) hp => by_vc (q := bd 1000000000 b ∧ bd 1000000000 a ∧ bd 1000000000 c ∧ bd 1000000000 a ∧ bd 2000000000 (Geo.sub b a) ∧ bd 2000000000 (Geo.sub c a) ∧ Geo.sgn (Geo.cross (Geo.sub b a) (Geo.sub c a)) = Geo.turn a b c) (by kernel_rfl) (by
  change bd 1000000000 a ∧ bd 1000000000 b ∧ bd 1000000000 c at hp
  exact ⟨hp.2.1, hp.1, hp.2.2, hp.1, sub_bd hp.2.1 hp.1, sub_bd hp.2.2 hp.1, rfl⟩)
def t70 : Tab := tabL [(70, c70)] t145
theorem t70o : t70.Ok Tryz.prog := tabL_ok t145o ⟨k70, trivial⟩
def c100 : Con := con (ac aS (a1 aV)) (fun (_, _) => []) (fun (s, p) => .int .i64 (Geo.sideR s p)
  )
theorem k100 : c100.Ok Tryz.prog 100 := con_ok (cx_ok t70o) (raw := noRaw) (fun (_, _) => []) (fun (_, _) => ⟨_, rfl⟩) fun (s, p) _ => by_vc (q := ((!Geo.validS s) = true → 0 = Geo.sideR s p) ∧
 ((!Geo.validS s) = false → (0 : Int) ≤ 4000 ∧ (4000 : Int) ≤ 1000000000000 ∧ ((!Geo.within p 4000) = true → 0 = Geo.sideR s p) ∧
  ((!Geo.within p 4000) = false → bd 1000000000 s.a ∧ bd 1000000000 s.b ∧ bd 1000000000 p ∧ Geo.turn s.a s.b p = Geo.sideR s p))) (by kernel_rfl) (by
  unfold Geo.sideR
  refine ⟨fun h => by rw [h]; rfl, fun h => ⟨by decide, by decide, fun h2 => by rw [h, h2]; rfl, fun h2 => ⟨(vS_bd h).1, (vS_bd h).2, bd_of (by simpa using h2), by rw [h, h2]; rfl⟩⟩⟩)
def t100 : Tab := tabL [(100, c100)] t70
theorem t100o : t100.Ok Tryz.prog := tabL_ok t70o ⟨k100, trivial⟩
def c163 : Con := con (ac aS (a1 aV)) (fun (_, _) => []) (fun (s, p) => .bool (Geo.onS s p))
theorem k163 : c163.Ok Tryz.prog 163 := con_ok (cx_ok t100o) (raw := noRaw) (fun (s, p) => [jb 4 5 (Geo.inBox s p)]
  ) (fun (_, _) => ⟨_, rfl⟩) fun (s, p) _ => by_vc (q := ((!Geo.validS s) = true → false = Geo.onS s p) ∧
 ((!Geo.validS s) = false → ((Min.min s.a.x s.b.x ≤ p.x → (p.x ≤ Max.max s.a.x s.b.x → (Min.min s.a.y s.b.y ≤ p.y → decide (p.y ≤ Max.max s.a.y s.b.y) = Geo.inBox s p) ∧
     (¬ Min.min s.a.y s.b.y ≤ p.y → false = Geo.inBox s p)) ∧
    (¬ p.x ≤ Max.max s.a.x s.b.x → false = Geo.inBox s p)) ∧
   (¬ Min.min s.a.x s.b.x ≤ p.x → false = Geo.inBox s p)) ∧
  (∀ y : Unit, (Geo.inBox s p = true → bd 1000000000 s.a ∧ bd 1000000000 s.b ∧ bd 1000000000 p ∧ decide (Geo.turn s.a s.b p = 0) = Geo.onS s p) ∧
   (Geo.inBox s p = false → false = Geo.onS s p)))) (by kernel_rfl) (by
  refine ⟨fun h => by unfold Geo.onS; simp at h; simp [h], fun h => ⟨by unfold Geo.inBox; grind, fun _ => ⟨fun h2 => ⟨(vS_bd h).1, (vS_bd h).2, inB_bd (vS_bd h) h2, by unfold Geo.onS; simp at h; rw [h, h2]; grind⟩, fun h2 => by unfold Geo.onS; rw [h2]; simp⟩⟩⟩)
def t163 : Tab := tabL [(163, c163)] t100
theorem t163o : t163.Ok Tryz.prog := tabL_ok t100o ⟨k163, trivial⟩
def so (l : List Geo.V) (k : Nat) : List Geo.V := Geo.sortedV (l.take k)
def qso (l : List Geo.V) (k j : Nat) : Prop := Geo.lessV (nth (so l k) j) (nth l k) = true
def cm (s t : Geo.S) (k : Nat) : List Geo.V := ([s.a, s.b, t.a, t.b].take k).filter fun p => Geo.onS s p && Geo.onS t p
theorem so_succ {l : List Geo.V} {k : Nat} (h : k < l.length) : so l (k + 1) = Geo.insV (so l k) (nth l k) := by
  unfold so Geo.sortedV
  rw [List.take_add_one, List.getElem?_eq_getElem h, List.foldl_append, nth_eq h]; rfl
theorem insV_stop {p : Geo.V} : ∀ {l : List Geo.V} {k : Nat}, k ≤ l.length → (∀ j, j < k → Geo.lessV (nth l j) p = true) → (k < l.length → ¬ Geo.lessV (nth l k) p = true) →
    Geo.insV l p = if k < l.length ∧ nth l k = p then l else l.take k ++ p :: l.drop k
  | [], k, h1, _, _ => by simp at h1; subst h1; rfl
  | q :: r, 0, _, _, h3 => by
    have h3 : ¬ Geo.lessV q p = true := h3 (by simp)
    unfold Geo.insV
    rw [if_neg h3]
    show (if q = p then q :: r else p :: q :: r) = if 0 < (q :: r).length ∧ q = p then q :: r else p :: q :: r
    simp
  | q :: r, k + 1, h1, h2, h3 => by
    have h0 : Geo.lessV q p = true := h2 0 (by omega)
    unfold Geo.insV
    rw [if_pos h0, insV_stop (l := r) (k := k) (by simpa using h1) (fun j hj => h2 (j + 1) (by omega)) (fun hk => h3 (by simpa using hk))]
    show (q :: if _ then _ else _) = if k + 1 < (q :: r).length ∧ nth r k = p then q :: r else q :: (r.take k ++ p :: r.drop k)
    simp only [List.length_cons, Nat.add_lt_add_iff_right]
    split <;> rfl
theorem insV_len (l : List Geo.V) (p : Geo.V) : (Geo.insV l p).length ≤ l.length + 1 := by
  induction l with
  | nil => simp [Geo.insV]
  | cons q r ih => unfold Geo.insV; split; (simp; omega); split <;> simp
theorem so_app {l : List Geo.V} {k y : Nat} (hk : k < l.length) (h1 : y ≤ (so l k).length) (h2 : upto (qso l k) y) (h3 : y < (so l k).length → ¬ qso l k y) (h4 : ¬ (y < (so l k).length ∧ nth (so l k) y = nth l k)) :
    ([] : List Geo.V) ++ List.take y (List.drop 0 (so l k)) ++ [nth l k] ++ List.take ((so l k).length - y) (List.drop y (so l k)) = so l (k + 1) := by
  have e : List.take ((so l k).length - y) (List.drop y (so l k)) = List.drop y (so l k) := List.take_of_length_le (by simp)
  rw [so_succ hk, insV_stop h1 h2 h3, if_neg h4, e]; simp
theorem so_same {l : List Geo.V} {k y : Nat} (hk : k < l.length) (h1 : y ≤ (so l k).length) (h2 : upto (qso l k) y) (h3 : y < (so l k).length → ¬ qso l k y) (h4 : y < (so l k).length) (h5 : nth (so l k) y = nth l k) : so l k = so l (k + 1) := by
  rw [so_succ hk, insV_stop h1 h2 h3, if_pos ⟨h4, h5⟩]
theorem cm_succ (s t : Geo.S) {k : Nat} (h : k < 4) : cm s t (k + 1) = if (Geo.onS s (nth [s.a, s.b, t.a, t.b] k) && Geo.onS t (nth [s.a, s.b, t.a, t.b] k)) = true then cm s t k ++ [nth [s.a, s.b, t.a, t.b] k] else cm s t k := by
  unfold cm
  rw [List.take_add_one, List.getElem?_eq_getElem (show k < [s.a, s.b, t.a, t.b].length from h), List.filter_append, nth_eq (show k < [s.a, s.b, t.a, t.b].length from h)]
  simp only [Option.toList_some, List.filter_cons, List.filter_nil]
  split <;> simp
theorem cm_len (s t : Geo.S) (k : Nat) : (cm s t k).length ≤ 4 := Nat.le_trans (List.length_filter_le _ _) (by simp; omega)
def c164 : Con := con (a1 (aL .V)) (fun l => [l.length ≤ 1000]) (fun l => .lst .V (Geo.sortedV l))
theorem k164 : c164.Ok Tryz.prog 164 := con_ok (cx_ok t163o) (raw := noRaw) (fun l => [lp 3 4 l.length (fun k => [(so l k).length ≤ k]) [900] (fun k => [(3, .own 900 .V (so l k).length)]) (fun k => [(900, .row 44 .V (so l k))]) fun k => [cnt 6 5 (so l k).length (upto (qso l k)), jN 8 5 (fun j => [j ≤ (so l k).length, upto (qso l k) j, j < (so l k).length → ¬ qso l k j]) fun j => [jP 9 [¬ (j < (so l k).length ∧ nth (so l k) j = nth l k)]]]]
  ) (fun _ => ⟨_, rfl⟩) fun l hp => by_vc (q := (0 = (0 : Int) ∧ (so l 0).length = 0 ∧ so l 0 = ([] : List Geo.V) ∧ (0 : Nat) ≤ l.length ∧ (so l 0).length ≤ 0) ∧
 (∀ x : Nat, x ≤ l.length ∧ (so l x).length ≤ x → ((x : Int) < l.length → ((0 = (0 : Int) ∧ (0 : Nat) ≤ (so l x).length ∧ upto (qso l x) 0) ∧
    (∀ x_1 : Nat, x_1 ≤ (so l x).length ∧ upto (qso l x) x_1 → ((x_1 : Int) < (so l x).length → ix (x_1 : Int) (so l x).length ∧ x_1 < (so l x).length ∧ ix (x : Int) l.length ∧ (Geo.lessV (nth (so l x) x_1) (nth l x) = true → in64 ((x_1 : Int) + 1) ∧ (x_1 : Int) + 1 = ((x_1 + 1 : Nat) : Int) ∧ x_1 + 1 ≤ (so l x).length ∧ upto (qso l x) (x_1 + 1) ∧ (so l x).length - (x_1 + 1) < (so l x).length - x_1) ∧
      (Geo.lessV (nth (so l x) x_1) (nth l x) = false → (x_1 : Int) = x_1 ∧ x_1 ≤ (so l x).length ∧ upto (qso l x) x_1 ∧ (x_1 < (so l x).length → ¬ qso l x x_1))) ∧
     (¬ (x_1 : Int) < (so l x).length → (x_1 : Int) = x_1 ∧ x_1 ≤ (so l x).length ∧ upto (qso l x) x_1 ∧ (x_1 < (so l x).length → ¬ qso l x x_1)))) ∧
   (∀ y : Nat, y ≤ (so l x).length ∧ upto (qso l x) y ∧ (y < (so l x).length → ¬ qso l x y) → (((y : Int) < (so l x).length → ix (y : Int) (so l x).length ∧ y < (so l x).length ∧ ix (x : Int) l.length ∧ ((nth (so l x) y) = (nth l x) → in64 ((x : Int) + 1) ∧ (x : Int) + 1 = ((x + 1 : Nat) : Int) ∧ (so l x).length = (so l (x + 1)).length ∧ so l x = so l (x + 1) ∧ x + 1 ≤ l.length ∧ (so l (x + 1)).length ≤ x + 1 ∧ l.length - (x + 1) < l.length - x) ∧
      (¬ (nth (so l x) y) = (nth l x) → ¬ (y < (so l x).length ∧ nth (so l x) y = nth l x))) ∧
     (¬ (y : Int) < (so l x).length → ¬ (y < (so l x).length ∧ nth (so l x) y = nth l x))) ∧
    (∀ y_1 : Unit, ¬ (y < (so l x).length ∧ nth (so l x) y = nth l x) → (0 ≤ (y : Int) ∧ (y : Int) ≤ (so l x).length) ∧ 0 + y ≤ (so l x).length ∧ ([] : List Geo.V).length + (List.take y (List.drop 0 (so l x))).length ≤ 1000000 ∧ ix (x : Int) l.length ∧ (([] : List Geo.V) ++ List.take y (List.drop 0 (so l x))).length = (([] : List Geo.V) ++ List.take y (List.drop 0 (so l x))).length ∧ (([] : List Geo.V) ++ List.take y (List.drop 0 (so l x))).length + [(nth l x)].length ≤ 1000000 ∧ (0 ≤ (y : Int) ∧ (y : Int) ≤ (so l x).length) ∧ (([] : List Geo.V) ++ List.take y (List.drop 0 (so l x)) ++ [(nth l x)]).length = (([] : List Geo.V) ++ List.take y (List.drop 0 (so l x)) ++ [(nth l x)]).length ∧ y + ((so l x).length - y) ≤ (so l x).length ∧ (([] : List Geo.V) ++ List.take y (List.drop 0 (so l x)) ++ [(nth l x)]).length + (List.take ((so l x).length - y) (List.drop y (so l x))).length ≤ 1000000 ∧ in64 ((x : Int) + 1) ∧ (x : Int) + 1 = ((x + 1 : Nat) : Int) ∧ (([] : List Geo.V) ++ List.take y (List.drop 0 (so l x)) ++ [(nth l x)] ++ List.take ((so l x).length - y) (List.drop y (so l x))).length = (so l (x + 1)).length ∧ ([] : List Geo.V) ++ List.take y (List.drop 0 (so l x)) ++ [(nth l x)] ++ List.take ((so l x).length - y) (List.drop y (so l x)) = so l (x + 1) ∧ x + 1 ≤ l.length ∧ (so l (x + 1)).length ≤ x + 1 ∧ l.length - (x + 1) < l.length - x))) ∧
  (¬ (x : Int) < l.length → (so l x).length = (so l x).length ∧ so l x = Geo.sortedV l))) (by kernel_rfl) (by
  change l.length ≤ 1000 at hp
  have e0 : so l 0 = [] := rfl
  have e1 : so l l.length = Geo.sortedV l := by unfold so; rw [List.take_length]
  have el : ∀ x, x < l.length → (so l x).length ≤ x → (so l (x + 1)).length ≤ x + 1 := by intro x h h2; rw [so_succ h]; exact Nat.le_trans (insV_len _ _) (by omega)
  have e2 : (so l 0).length = 0 := rfl
  repeat' first | with_reducible apply And.intro | with_reducible intro
  all_goals repeat with_reducible cases ‹_ ∧ _›
  all_goals first | assumption | rfl | exact trivial | exact nb ‹_› | exact nb' ‹_› | omega | exact ix_mod (by omega) | (unfold ix; omega) | (unfold in64; omega) | exact upto_zero _ | exact upto_succ ‹_› ‹_› | (refine upto_succ ‹_› ?_; simp_all; done) | exact so_app (by omega) ‹_› ‹_› ‹_› ‹_› | exact congrArg List.length (so_app (by omega) ‹_› ‹_› ‹_› ‹_›) | exact so_same (by omega) ‹_› ‹_› ‹_› (by omega) ‹_› | exact congrArg List.length (so_same (by omega) ‹_› ‹_› ‹_› (by omega) ‹_›) | exact el _ (by omega) ‹_› | (unfold qso at *; simp_all; done) | grind)
def t164 : Tab := tabL [(164, c164)] t163
theorem t164o : t164.Ok Tryz.prog := tabL_ok t163o ⟨k164, trivial⟩
def c99 : Con := con (ac aS (a1 aS)) (fun (_, _) => []) (fun (s, t) => .lst .V (Geo.commonR s t))
theorem k99 : c99.Ok Tryz.prog 99 := con_ok (cx_ok t164o) (raw := noRaw) (fun (s, t) => [lp 4 7 4 (fun _ => []) [900, 11] (fun k => [(6, .own 900 .V (cm s t k).length), (5, .own 11 .V 4)]) (fun k => [(900, .row 44 .V (cm s t k)), (11, .row 44 .V [s.a, s.b, t.a, t.b])]) fun k => [jb 7 34 (Geo.onS s (nth [s.a, s.b, t.a, t.b] k) && Geo.onS t (nth [s.a, s.b, t.a, t.b] k))]]
  ) (fun (_, _) => ⟨_, rfl⟩) fun (s, t) _ => by_vc (q := (0 = (0 : Int) ∧ (cm s t 0).length = 0 ∧ (4 : Nat) = 4 ∧ cm s t 0 = ([] : List Geo.V) ∧ [s.a, s.b, t.a, t.b] = [s.a, s.b, t.a, t.b] ∧ (0 : Nat) ≤ 4) ∧
 (∀ x : Nat, x ≤ 4 → ((x : Int) < 4 → (ix (x : Int) 4 ∧ x < [s.a, s.b, t.a, t.b].length ∧ (Geo.onS s (nth [s.a, s.b, t.a, t.b] x) = true → ix (x : Int) 4 ∧ x < [s.a, s.b, t.a, t.b].length ∧ Geo.onS t (nth [s.a, s.b, t.a, t.b] x) = (Geo.onS s (nth [s.a, s.b, t.a, t.b] x) && Geo.onS t (nth [s.a, s.b, t.a, t.b] x))) ∧
    (Geo.onS s (nth [s.a, s.b, t.a, t.b] x) = false → false = (Geo.onS s (nth [s.a, s.b, t.a, t.b] x) && Geo.onS t (nth [s.a, s.b, t.a, t.b] x)))) ∧
   (∀ y : Unit, ((Geo.onS s (nth [s.a, s.b, t.a, t.b] x) && Geo.onS t (nth [s.a, s.b, t.a, t.b] x)) = true → ix (x : Int) 4 ∧ x < [s.a, s.b, t.a, t.b].length ∧ (cm s t x).length = (cm s t x).length ∧ (cm s t x).length + [(nth [s.a, s.b, t.a, t.b] x)].length ≤ 1000000 ∧ in64 ((x : Int) + 1) ∧ (x : Int) + 1 = ((x + 1 : Nat) : Int) ∧ (cm s t x ++ [(nth [s.a, s.b, t.a, t.b] x)]).length = (cm s t (x + 1)).length ∧ (4 : Nat) = 4 ∧ cm s t x ++ [(nth [s.a, s.b, t.a, t.b] x)] = cm s t (x + 1) ∧ [s.a, s.b, t.a, t.b] = [s.a, s.b, t.a, t.b] ∧ x + 1 ≤ 4 ∧ 4 - (x + 1) < 4 - x) ∧
    ((Geo.onS s (nth [s.a, s.b, t.a, t.b] x) && Geo.onS t (nth [s.a, s.b, t.a, t.b] x)) = false → in64 ((x : Int) + 1) ∧ (x : Int) + 1 = ((x + 1 : Nat) : Int) ∧ (cm s t x).length = (cm s t (x + 1)).length ∧ (4 : Nat) = 4 ∧ cm s t x = cm s t (x + 1) ∧ [s.a, s.b, t.a, t.b] = [s.a, s.b, t.a, t.b] ∧ x + 1 ≤ 4 ∧ 4 - (x + 1) < 4 - x))) ∧
  (¬ (x : Int) < 4 → (cm s t x).length = (cm s t x).length ∧ (cm s t x).length ≤ 1000 ∧ Geo.sortedV (cm s t x) = Geo.commonR s t))) (by kernel_rfl) (by
  have e0 : cm s t 0 = [] := rfl
  have e4 : Geo.sortedV (cm s t 4) = Geo.commonR s t := rfl
  have es := fun k => @cm_succ s t k
  have el := cm_len s t
  repeat' first | with_reducible apply And.intro | with_reducible intro
  all_goals repeat with_reducible cases ‹_ ∧ _›
  all_goals first | assumption | rfl | exact trivial | exact nb ‹_› | exact nb' ‹_› | omega | exact ix_mod (by omega) | (unfold ix; omega) | (unfold in64; omega) | exact upto_zero _ | exact upto_succ ‹_› ‹_› | (refine upto_succ ‹_› ?_; simp_all; done) | grind)
def t99 : Tab := tabL [(99, c99)] t164
theorem t99o : t99.Ok Tryz.prog := tabL_ok t164o ⟨k99, trivial⟩
def c32 : Con := con (ac aS (a1 aS)) (fun (_, _) => []) (fun (s, t) => .int .i64 (Geo.meetR s t)
  )
theorem k32 : c32.Ok Tryz.prog 32 := con_ok (cx_ok t99o) (raw := noRaw) (fun (_, _) => []) (fun (_, _) => ⟨_, rfl⟩) fun (s, t) _ => by_vc (q := ((!Geo.validS s) = true → 0 = Geo.meetR s t) ∧
 ((!Geo.validS s) = false → ((!Geo.validS t) = true → 0 = Geo.meetR s t) ∧
  ((!Geo.validS t) = false → (1 < ((Geo.commonR s t).length : Int) → 3 = Geo.meetR s t) ∧
   (¬ 1 < ((Geo.commonR s t).length : Int) → (((Geo.commonR s t).length : Int) = 1 → 1 = Geo.meetR s t) ∧
    (¬ ((Geo.commonR s t).length : Int) = 1 → in64 (Geo.sideR s t.a * Geo.sideR s t.b) ∧ (Geo.sideR s t.a * Geo.sideR s t.b < 0 → in64 (Geo.sideR t s.a * Geo.sideR t s.b) ∧ (Geo.sideR t s.a * Geo.sideR t s.b < 0 → 2 = Geo.meetR s t) ∧
      (¬ Geo.sideR t s.a * Geo.sideR t s.b < 0 → 0 = Geo.meetR s t)) ∧
     (¬ Geo.sideR s t.a * Geo.sideR s t.b < 0 → 0 = Geo.meetR s t)))))) (by kernel_rfl) (by
  have d1 := sideR_bd s t.a
  have d2 := sideR_bd s t.b
  have d3 := sideR_bd t s.a
  have d4 := sideR_bd t s.b
  have m1 := mul_bd d1 d2
  have m2 := mul_bd d3 d4
  unfold Geo.meetR
  repeat' first | with_reducible apply And.intro | with_reducible intro
  all_goals repeat with_reducible cases ‹_ ∧ _›
  all_goals first | assumption | rfl | exact trivial | exact nb ‹_› | exact nb' ‹_› | omega | exact ix_mod (by omega) | (unfold ix; omega) | (unfold in64; omega) | exact upto_zero _ | exact upto_succ ‹_› ‹_› | (refine upto_succ ‹_› ?_; simp_all; done) | grind)
def t32 : Tab := tabL [(32, c32)] t99
theorem t32o : t32.Ok Tryz.prog := tabL_ok t99o ⟨k32, trivial⟩
end
end Go.Proofs.YtdaeofhdgabhjaaGreat
namespace Go.Proofs.YtdaeofhdgabhjaaGreat
open Go.RowKit
set_option maxRecDepth 100000
noncomputable section
open Geo (nth)
def eg (r : Geo.Ring) (k : Nat) : List Geo.S := (List.range k).map (Geo.edge r)
theorem eg_succ (r : Geo.Ring) (k : Nat) : eg r k ++ [(⟨nth r k, nth r ((k + 1) % r.length)⟩ : Geo.S)] = eg r (k + 1) := by
  unfold eg; rw [List.range_succ, List.map_append]; rfl
theorem eg_len (r : Geo.Ring) (k : Nat) : (eg r k).length = k := by unfold eg; simp
def ar (r : Geo.Ring) (k : Nat) : Int := ((List.range k).map fun i => Geo.cross (nth r i) (Geo.nxt r i)).sum
theorem ar_succ (r : Geo.Ring) (k : Nat) : ar r (k + 1) = ar r k + Geo.cross (nth r k) (nth r ((k + 1) % r.length)) := by
  unfold ar; rw [List.range_succ, List.map_append, List.sum_append]; simp [Geo.nxt]
theorem near_bd {r : Geo.Ring} (h : Geo.near r = true) {i : Nat} (hi : i < r.length) {M : Int} (hM : 2000 ≤ M := by decide) : bd M (nth r i) := bd_of (Geo.near_nth h i hi) hM
theorem near_at {r : Geo.Ring} {i : Nat} (hi : i < r.length) (h : (!Geo.within (nth r i) 2000) = true) : Geo.near r = false := by
  cases hn : Geo.near r with
  | false => rfl
  | true => have := Geo.near_nth hn i hi; rw [this] at h; cases h
theorem near_all {r : Geo.Ring} (h : upto (fun i => Geo.within (nth r i) 2000 = true) r.length) : Geo.near r = true := by
  unfold Geo.near; rw [List.all_eq_true]; intro v hv
  obtain ⟨j, hj, rfl⟩ := List.getElem_of_mem hv
  rw [← nth_eq hj]; exact h j hj
theorem ar_bd {r : Geo.Ring} (h : Geo.near r = true) : ∀ k : Nat, k ≤ r.length → -8000000 * (k : Int) ≤ ar r k ∧ ar r k ≤ 8000000 * k
  | 0, _ => by simp [ar]
  | k + 1, hk => by
    have ih := ar_bd h k (by omega)
    have := cross_bd (near_bd h (i := k) (by omega) (M := 2000)) (near_bd h (i := (k + 1) % r.length) (Nat.mod_lt _ (by omega)) (M := 2000))
    rw [ar_succ]; unfold Geo.cross
    omega
def c102 : Con := con (a1 (aL .V)) (fun r => [r.length ≤ 100000]) (fun r => .lst .S (Geo.edges r))
theorem k102 : c102.Ok Tryz.prog 102 := con_ok (cx_ok t32o) (raw := noRaw) (fun r => [lp 5 4 r.length (fun _ => []) [900] (fun k => [(3, .own 900 .S (eg r k).length)]) (fun k => [(900, .row 46 .S (eg r k))])]
  ) (fun _ => ⟨_, rfl⟩) fun r hp => by_vc (q := ((r.length : Int) < 2 → Geo.edges r = ([] : List Geo.S)) ∧
 (¬ (r.length : Int) < 2 → (0 = (0 : Int) ∧ (eg r 0).length = 0 ∧ eg r 0 = ([] : List Geo.S) ∧ (0 : Nat) ≤ r.length) ∧
  (∀ x : Nat, x ≤ r.length → ((x : Int) < r.length → ix (x : Int) r.length ∧ in64 ((x : Int) + 1) ∧ (r.length : Int) ≠ 0 ∧ ix (((x + 1) % r.length : Nat) : Int) r.length ∧ (eg r x).length = (eg r x).length ∧ (eg r x).length + [(⟨(nth r x), (nth r ((x + 1) % r.length))⟩ : Geo.S)].length ≤ 1000000 ∧ in64 ((x : Int) + 1) ∧ (x : Int) + 1 = ((x + 1 : Nat) : Int) ∧ (eg r x ++ [(⟨(nth r x), (nth r ((x + 1) % r.length))⟩ : Geo.S)]).length = (eg r (x + 1)).length ∧ eg r x ++ [(⟨(nth r x), (nth r ((x + 1) % r.length))⟩ : Geo.S)] = eg r (x + 1) ∧ x + 1 ≤ r.length ∧ r.length - (x + 1) < r.length - x) ∧
   (¬ (x : Int) < r.length → (eg r x).length = (eg r x).length ∧ eg r x = Geo.edges r)))) (by kernel_rfl) (by
  change r.length ≤ 100000 at hp
  have e0 : eg r 0 = [] := rfl
  have es := eg_succ r
  have el := eg_len r
  have ee : Geo.edges r = if r.length < 2 then [] else eg r r.length := rfl
  repeat' first | with_reducible apply And.intro | with_reducible intro
  all_goals repeat with_reducible cases ‹_ ∧ _›
  all_goals first | assumption | rfl | exact trivial | exact nb ‹_› | exact nb' ‹_› | omega | exact ix_mod (by omega) | (unfold ix; omega) | (unfold in64; omega) | exact upto_zero _ | exact upto_succ ‹_› ‹_› | (refine upto_succ ‹_› ?_; simp_all; done) | grind)
def t102 : Tab := tabL [(102, c102)] t32
theorem t102o : t102.Ok Tryz.prog := tabL_ok t32o ⟨k102, trivial⟩
def c160 : Con := con (a1 (aL .V)) (fun r => [r.length ≤ 100000]) (fun r => .bool (Geo.near r))
theorem k160 : c160.Ok Tryz.prog 160 := con_ok (cx_ok t102o) (raw := noRaw) (fun r => [cnt 2 3 r.length (upto fun i => Geo.within (nth r i) 2000 = true)]
  ) (fun _ => ⟨_, rfl⟩) fun r hp => by_vc (q := (0 = (0 : Int) ∧ (0 : Nat) ≤ r.length ∧ upto (fun i => Geo.within (nth r i) 2000 = true) 0) ∧
 (∀ x : Nat, x ≤ r.length ∧ upto (fun i => Geo.within (nth r i) 2000 = true) x → ((x : Int) < r.length → ix (x : Int) r.length ∧ (0 : Int) ≤ 2000 ∧ (2000 : Int) ≤ 1000000000000 ∧ ((!Geo.within (nth r x) 2000) = true → false = Geo.near r) ∧
   ((!Geo.within (nth r x) 2000) = false → in64 ((x : Int) + 1) ∧ (x : Int) + 1 = ((x + 1 : Nat) : Int) ∧ x + 1 ≤ r.length ∧ upto (fun i => Geo.within (nth r i) 2000 = true) (x + 1) ∧ r.length - (x + 1) < r.length - x)) ∧
  (¬ (x : Int) < r.length → true = Geo.near r))) (by kernel_rfl) (by
  change r.length ≤ 100000 at hp
  have e1 := @near_at r
  have e2 := @near_all r
  repeat' first | with_reducible apply And.intro | with_reducible intro
  all_goals repeat with_reducible cases ‹_ ∧ _›
  all_goals first | assumption | rfl | exact trivial | exact nb ‹_› | exact nb' ‹_› | omega | exact ix_mod (by omega) | (unfold ix; omega) | (unfold in64; omega) | exact upto_zero _ | exact upto_succ ‹_› ‹_› | (refine upto_succ ‹_› ?_; simp_all; done) | exact (e2 (by rw [show r.length = _ from (by omega)]; assumption)).symm | grind)
def t160 : Tab := tabL [(160, c160)] t102
theorem t160o : t160.Ok Tryz.prog := tabL_ok t102o ⟨k160, trivial⟩
def c113 : Con := con (a1 (aL .V)) (fun r => [Geo.near r = true, r.length ≤ 100000]) (fun r => .int .i64 (Geo.area r))
theorem k113 : c113.Ok Tryz.prog 113 := con_ok (cx_ok t160o) (raw := noRaw) (fun r => [lp 3 4 r.length (fun _ => []) [] (fun k => [(3, .int .i64 (ar r k))]) (fun _ => [])]
  ) (fun _ => ⟨_, rfl⟩) fun r hp => by_vc (q := (0 = (0 : Int) ∧ 0 = ar r 0 ∧ (0 : Nat) ≤ r.length) ∧
 (∀ x : Nat, x ≤ r.length → ((x : Int) < r.length → ix (x : Int) r.length ∧ in64 ((x : Int) + 1) ∧ (r.length : Int) ≠ 0 ∧ ix (((x + 1) % r.length : Nat) : Int) r.length ∧ bd 2000000000 (nth r x) ∧ bd 2000000000 (nth r ((x + 1) % r.length)) ∧ in64 (ar r x + Geo.cross (nth r x) (nth r ((x + 1) % r.length))) ∧ in64 ((x : Int) + 1) ∧ (x : Int) + 1 = ((x + 1 : Nat) : Int) ∧ ar r x + Geo.cross (nth r x) (nth r ((x + 1) % r.length)) = ar r (x + 1) ∧ x + 1 ≤ r.length ∧ r.length - (x + 1) < r.length - x) ∧
  (¬ (x : Int) < r.length → ar r x = Geo.area r))) (by kernel_rfl) (by
  change Geo.near r = true ∧ r.length ≤ 100000 at hp
  have e0 : ar r r.length = Geo.area r := rfl
  have es := ar_succ r
  have eb : ∀ x, x < r.length → in64 (ar r x + Geo.cross (nth r x) (nth r ((x + 1) % r.length))) := fun x h => by rw [← es]; exact i64w (by have := ar_bd hp.1 (x + 1) (by omega); omega)
  have en := fun i hi => @near_bd r hp.1 i hi 2000000000
  repeat' first | with_reducible apply And.intro | with_reducible intro
  all_goals repeat with_reducible cases ‹_ ∧ _›
  all_goals first | assumption | rfl | exact trivial | exact nb ‹_› | exact nb' ‹_› | omega | exact ix_mod (by omega) | (unfold ix; omega) | (unfold in64; omega) | exact upto_zero _ | exact upto_succ ‹_› ‹_› | (refine upto_succ ‹_› ?_; simp_all; done) | exact eb _ (by omega) | exact en _ (by omega) (by decide) | exact en _ (Nat.mod_lt _ (by omega)) (by decide) | (rw [es]) | grind)
def t113 : Tab := tabL [(113, c113)] t160
theorem t113o : t113.Ok Tryz.prog := tabL_ok t160o ⟨k113, trivial⟩
def c201 : Con := con (a1 aI) (fun n => [-9000000000000000000 ≤ n, n ≤ 9000000000000000000]) (fun n => .int .i64 (n.natAbs : Int)
  )
theorem k201 : c201.Ok Tryz.prog 201 := con_ok (cx_ok t113o) (raw := noRaw) (fun _ => []) (fun _ => ⟨_, rfl⟩) fun n hp => by_vc (q := (0 ≤ n → n = Int.natAbs n) ∧
 (¬ 0 ≤ n → in64 (0 - n) ∧ 0 - n = Int.natAbs n)) (by kernel_rfl) (by
  change -9000000000000000000 ≤ n ∧ n ≤ 9000000000000000000 at hp
  repeat' first | with_reducible apply And.intro | with_reducible intro
  all_goals repeat with_reducible cases ‹_ ∧ _›
  all_goals first | assumption | rfl | exact trivial | exact nb ‹_› | exact nb' ‹_› | omega | exact ix_mod (by omega) | (unfold ix; omega) | (unfold in64; omega) | exact upto_zero _ | exact upto_succ ‹_› ‹_› | (refine upto_succ ‹_› ?_; simp_all; done) | grind)
def t201 : Tab := tabL [(201, c201)] t113
theorem t201o : t201.Ok Tryz.prog := tabL_ok t113o ⟨k201, trivial⟩
def c200 : Con := con (ac aI (a1 aI)) (fun (a, b) => [0 ≤ a, 0 ≤ b]) (fun (a, b) => .int .i64 ((Nat.gcd a.natAbs b.natAbs : Nat) : Int))
theorem k200 : c200.Ok Tryz.prog 200 := con_ok (cx_ok t201o) (raw := noRaw) (fun (a, b) => [(1, .mk (Int × Int) (fun F _ => int2 F 0 1) [] (fun p => [0 ≤ p.1, 0 ≤ p.2, Nat.gcd p.1.natAbs p.2.natAbs = Nat.gcd a.natAbs b.natAbs]) (fun p => [(0, .int .i64 p.1), (1, .int .i64 p.2)]) (fun _ => []) (fun p => p.2.natAbs) (fun _ => []))]
  ) (fun (_, _) => ⟨_, rfl⟩) fun (a, b) hp => by_vc (q := (a = a ∧ b = b ∧ 0 ≤ a ∧ 0 ≤ b ∧ Nat.gcd (Int.natAbs a) (Int.natAbs b) = Nat.gcd (Int.natAbs a) (Int.natAbs b)) ∧
 (∀ x : Prod Int Int, 0 ≤ x.1 ∧ 0 ≤ x.2 ∧ Nat.gcd (Int.natAbs x.1) (Int.natAbs x.2) = Nat.gcd (Int.natAbs a) (Int.natAbs b) → (¬ x.2 = 0 → x.2 ≠ 0 ∧ x.2 = x.2 ∧ Int.tmod x.1 x.2 = Int.tmod x.1 x.2 ∧ 0 ≤ x.2 ∧ 0 ≤ Int.tmod x.1 x.2 ∧ Nat.gcd (Int.natAbs x.snd) (Int.natAbs (Int.tmod x.1 x.2)) = Nat.gcd (Int.natAbs a) (Int.natAbs b) ∧ Int.natAbs (Int.tmod x.1 x.2) < Int.natAbs x.2) ∧
  (¬ (¬ x.2 = 0) → x.1 = Nat.gcd (Int.natAbs a) (Int.natAbs b)))) (by kernel_rfl) (by
  change 0 ≤ a ∧ 0 ≤ b at hp
  have e1 : ∀ x y : Int, 0 ≤ x → 0 ≤ y → Nat.gcd y.natAbs (Int.tmod x y).natAbs = Nat.gcd x.natAbs y.natAbs := fun x y _ _ => by
    rw [Int.natAbs_tmod, Nat.gcd_comm, ← Nat.gcd_rec, Nat.gcd_comm]
  have e2 : ∀ x y : Int, 0 ≤ x → ¬ y = 0 → (Int.tmod x y).natAbs < y.natAbs := fun x y _ h => by
    rw [Int.natAbs_tmod]; exact Nat.mod_lt _ (by omega)
  have e3 : ∀ x y : Int, 0 ≤ x → 0 ≤ Int.tmod x y := fun x y h => Int.tmod_nonneg _ h
  repeat' first | with_reducible apply And.intro | with_reducible intro
  all_goals repeat with_reducible cases ‹_ ∧ _›
  all_goals first | assumption | rfl | exact trivial | exact nb ‹_› | exact nb' ‹_› | omega | exact ix_mod (by omega) | (unfold ix; omega) | (unfold in64; omega) | exact upto_zero _ | exact upto_succ ‹_› ‹_› | (refine upto_succ ‹_› ?_; simp_all; done) | exact e3 _ _ ‹_› | exact e2 _ _ (by assumption) ‹_› | (rw [e1 _ _ (by assumption) (by assumption)]; assumption) | (have h0 := Decidable.of_not_not ‹¬ ¬ _›; simp_all; omega) | grind)
def t200 : Tab := tabL [(200, c200)] t201
theorem t200o : t200.Ok Tryz.prog := tabL_ok t201o ⟨k200, trivial⟩
def PtB (p : Geo.Pt) : Prop := (1 ≤ p.den ∧ p.den ≤ 134217728) ∧ (-600000000000 ≤ p.x ∧ p.x ≤ 600000000000) ∧ (-600000000000 ≤ p.y ∧ p.y ≤ 600000000000)
theorem PtB.of {p : Geo.Pt} (h : Geo.validPt p = true) : PtB p := by
  unfold Geo.validPt Geo.boundedP Geo.within at h
  simp only [Bool.and_eq_true, decide_eq_true_eq] at h
  unfold PtB; omega
theorem PtB.off {p : Geo.Pt} (hp : PtB p) {v : Geo.V} (hv : bd 10000 v) : (-1400000000000 ≤ v.x * p.den ∧ v.x * p.den ≤ 1400000000000) ∧ (-1400000000000 ≤ v.y * p.den ∧ v.y * p.den ≤ 1400000000000) := by
  have h1 := mul_bd (x := v.x) (y := p.den) (A := 10000) (B := 134217728) (by unfold bd at hv; omega) (by unfold PtB at hp; omega)
  have h2 := mul_bd (x := v.y) (y := p.den) (A := 10000) (B := 134217728) (by unfold bd at hv; omega) (by unfold PtB at hp; omega)
  omega
def c162 : Con := con (a1 aT) (fun _ => []) (fun p => .bool (Geo.validPt p))
theorem k162 : c162.Ok Tryz.prog 162 := con_ok (cx_ok t200o) (raw := noRaw) (fun p => [jb 2 42 (!Geo.boundedP p 4000)]
  ) (fun _ => ⟨_, rfl⟩) fun p _ => by_vc (q := ((p.den < 1 → true = (!Geo.boundedP p 4000)) ∧
  (¬ p.den < 1 → (134217728 < p.den → true = (!Geo.boundedP p 4000)) ∧
   (¬ 134217728 < p.den → in64 (-4000 * p.den) ∧ (p.x < -4000 * p.den → true = (!Geo.boundedP p 4000)) ∧
    (¬ p.x < -4000 * p.den → in64 (4000 * p.den) ∧ (4000 * p.den < p.x → true = (!Geo.boundedP p 4000)) ∧
     (¬ 4000 * p.den < p.x → in64 (-4000 * p.den) ∧ (p.y < -4000 * p.den → true = (!Geo.boundedP p 4000)) ∧
      (¬ p.y < -4000 * p.den → in64 (4000 * p.den) ∧ decide (4000 * p.den < p.y) = (!Geo.boundedP p 4000))))))) ∧
 (∀ y : Unit, ((!Geo.boundedP p 4000) = true → false = Geo.validPt p) ∧
  ((!Geo.boundedP p 4000) = false → -9000000000000000000 ≤ p.x ∧ p.x ≤ 9000000000000000000 ∧ -9000000000000000000 ≤ p.y ∧ p.y ≤ 9000000000000000000 ∧ 0 ≤ (Int.natAbs p.x : Int) ∧ 0 ≤ (Int.natAbs p.y : Int) ∧ 0 ≤ (Nat.gcd (Int.natAbs (Int.natAbs p.x : Int)) (Int.natAbs (Int.natAbs p.y : Int)) : Int) ∧ 0 ≤ p.den ∧ decide ((Nat.gcd (Int.natAbs (Nat.gcd (Int.natAbs (Int.natAbs p.x : Int)) (Int.natAbs (Int.natAbs p.y : Int)) : Int)) (Int.natAbs p.den) : Int) = 1) = Geo.validPt p))) (by kernel_rfl) (by
  unfold Geo.validPt Geo.boundedP Geo.within; simp only [Int.natAbs_natCast]
  repeat' first | with_reducible apply And.intro | with_reducible intro
  all_goals repeat with_reducible cases ‹_ ∧ _›
  all_goals first | assumption | rfl | exact trivial | exact nb ‹_› | exact nb' ‹_› | omega | exact ix_mod (by omega) | (unfold ix; omega) | (unfold in64; omega) | exact upto_zero _ | exact upto_succ ‹_› ‹_› | (refine upto_succ ‹_› ?_; simp_all; done) | grind)
def t162 : Tab := tabL [(162, c162)] t200
theorem t162o : t162.Ok Tryz.prog := tabL_ok t200o ⟨k162, trivial⟩
def c166 : Con := con (ac aV (ac aV (a1 aT))) (fun (a, b, p) => [bd 10000 a, bd 10000 b, PtB p]) (fun (a, b, p) => .int .i64 (Geo.sgn (Geo.sideP ⟨a, b⟩ p))
  )
theorem k166 : c166.Ok Tryz.prog 166 := con_ok (cx_ok t162o) (raw := noRaw) (fun (_, _, _) => []) (fun (_, _, _) => ⟨_, rfl⟩) fun (a, b, p) hp => by_vc (q := bd 1000000000 b ∧ bd 1000000000 a ∧ in64 (a.y * p.den) ∧ in64 (p.y - a.y * p.den) ∧ in64 ((Geo.sub b a).x * (p.y - a.y * p.den)) ∧ in64 (a.x * p.den) ∧ in64 (p.x - a.x * p.den) ∧ in64 ((Geo.sub b a).y * (p.x - a.x * p.den)) ∧ in64 ((Geo.sub b a).x * (p.y - a.y * p.den) - (Geo.sub b a).y * (p.x - a.x * p.den)) ∧ Geo.sgn ((Geo.sub b a).x * (p.y - a.y * p.den) - (Geo.sub b a).y * (p.x - a.x * p.den)) = Geo.sgn (Geo.sideP (⟨a, b⟩ : Geo.S) p)) (by kernel_rfl) (by
  change bd 10000 a ∧ bd 10000 b ∧ PtB p at hp
  have h1 := hp.2.2.off hp.1
  have h2 := sub_bd hp.2.1 hp.1
  have h3 := hp.2.2
  unfold PtB at h3
  have m1 := mul_bd (A := 20000) (B := 2000000000000) h2.1 (y := p.y - a.y * p.den) (by omega)
  have m2 := mul_bd (A := 20000) (B := 2000000000000) h2.2 (y := p.x - a.x * p.den) (by omega)
  exact ⟨hp.2.1.mono, hp.1.mono, i64w (by omega), i64w (by omega), i64w (by omega), i64w (by omega), i64w (by omega), i64w (by omega), i64w (by omega), rfl⟩)
def t166 : Tab := tabL [(166, c166)] t162
theorem t166o : t166.Ok Tryz.prog := tabL_ok t162o ⟨k166, trivial⟩
def inR (s : Geo.S) (p : Geo.Pt) : Bool := decide (min s.a.x s.b.x * p.den ≤ p.x) && decide (p.x ≤ max s.a.x s.b.x * p.den) && decide (min s.a.y s.b.y * p.den ≤ p.y) && decide (p.y ≤ max s.a.y s.b.y * p.den)
def c165 : Con := con (ac aS (a1 aT)) (fun (s, p) => [bd 10000 s.a, bd 10000 s.b, PtB p]) (fun (s, p) => .bool (Geo.onR s p))
theorem k165 : c165.Ok Tryz.prog 165 := con_ok (cx_ok t166o) (raw := noRaw) (fun (s, p) => [jb 2 5 (inR s p)]
  ) (fun (_, _) => ⟨_, rfl⟩) fun (s, p) hp => by_vc (q := (in64 (Min.min s.a.x s.b.x * p.den) ∧ (Min.min s.a.x s.b.x * p.den ≤ p.x → in64 (Max.max s.a.x s.b.x * p.den) ∧ (p.x ≤ Max.max s.a.x s.b.x * p.den → in64 (Min.min s.a.y s.b.y * p.den) ∧ (Min.min s.a.y s.b.y * p.den ≤ p.y → in64 (Max.max s.a.y s.b.y * p.den) ∧ decide (p.y ≤ Max.max s.a.y s.b.y * p.den) = inR s p) ∧
    (¬ Min.min s.a.y s.b.y * p.den ≤ p.y → false = inR s p)) ∧
   (¬ p.x ≤ Max.max s.a.x s.b.x * p.den → false = inR s p)) ∧
  (¬ Min.min s.a.x s.b.x * p.den ≤ p.x → false = inR s p)) ∧
 (∀ y : Unit, (inR s p = true → bd 10000 s.a ∧ bd 10000 s.b ∧ PtB p ∧ decide (Geo.sgn (Geo.sideP s p) = 0) = Geo.onR s p) ∧
  (inR s p = false → false = Geo.onR s p))) (by kernel_rfl) (by
  change bd 10000 s.a ∧ bd 10000 s.b ∧ PtB p at hp
  have h1 := hp.2.2.off (v := ⟨min s.a.x s.b.x, min s.a.y s.b.y⟩) (by unfold bd at *; dsimp only; omega)
  have h2 := hp.2.2.off (v := ⟨max s.a.x s.b.x, max s.a.y s.b.y⟩) (by unfold bd at *; dsimp only; omega)
  dsimp only at h1 h2
  have e : Geo.onR s p = (inR s p && Geo.sgn (Geo.sideP s p) == 0) := rfl
  unfold inR at *
  repeat' first | with_reducible apply And.intro | with_reducible intro
  all_goals repeat with_reducible cases ‹_ ∧ _›
  all_goals first | assumption | rfl | exact trivial | exact nb ‹_› | exact nb' ‹_› | omega | exact ix_mod (by omega) | (unfold ix; omega) | (unfold in64; omega) | exact upto_zero _ | exact upto_succ ‹_› ‹_› | (refine upto_succ ‹_› ?_; simp_all; done) | grind)
def t165 : Tab := tabL [(165, c165)] t166
theorem t165o : t165.Ok Tryz.prog := tabL_ok t166o ⟨k165, trivial⟩
def pairR (r : Geo.Ring) (i k : Nat) : Bool := if k = i + 1 ∨ (i = 0 ∧ k = r.length - 1) then Geo.meetR (Geo.edge r i) (Geo.edge r k) == 1 else Geo.meetR (Geo.edge r i) (Geo.edge r k) == 0
theorem validR_iff (r : Geo.Ring) : Geo.validR r = true ↔ 3 ≤ r.length ∧ r.length ≤ 40 ∧ Geo.near r = true ∧ (∀ i, i < r.length → Geo.turn (nth r i) (nth r ((i + 1) % r.length)) (nth r ((i + 2) % r.length)) ≠ 0) ∧ (∀ i k, i < k → k < r.length → pairR r i k = true) ∧ 0 < Geo.area r := by
  unfold Geo.validR
  simp only [Bool.and_eq_true, decide_eq_true_eq, List.all_eq_true, List.mem_range, bne_iff_ne, Bool.or_eq_true]
  constructor
  · rintro ⟨⟨⟨⟨⟨h1, h2⟩, h3⟩, h4⟩, h5⟩, h6⟩
    refine ⟨h1, h2, h3, h4, fun i k hik hk => ?_, h6⟩
    rcases h5 i (by omega) k hk with h | h
    · omega
    · exact h
  · rintro ⟨h1, h2, h3, h4, h5, h6⟩
    refine ⟨⟨⟨⟨⟨h1, h2⟩, h3⟩, h4⟩, fun i hi k hk => ?_⟩, h6⟩
    by_cases h : k ≤ i
    · exact .inl h
    · exact .inr (h5 i k (by omega) hk)
theorem edges_length (r : Geo.Ring) (h : 2 ≤ r.length) : (Geo.edges r).length = r.length := by unfold Geo.edges; rw [if_neg (by omega)]; simp
theorem nthS_edges {r : Geo.Ring} {i : Nat} (h : 2 ≤ r.length) (hi : i < r.length) : nthS (Geo.edges r) i = Geo.edge r i := by
  rw [nthS_eq (by rw [edges_length r h]; exact hi)]
  simp only [Geo.edges, if_neg (show ¬ r.length < 2 by omega), List.getElem_map, List.getElem_range]
def parR (p : Geo.Pt) (l : List Geo.S) : Bool := l.foldl (fun b s => b != Geo.hitR s p) false
theorem parR_succ {p : Geo.Pt} {l : List Geo.S} {k : Nat} (h : k < l.length) : parR p (l.take (k + 1)) = (parR p (l.take k) != Geo.hitR (nthS l k) p) := by
  unfold parR
  rw [List.take_add_one, List.getElem?_eq_getElem h, List.foldl_append, nthS_eq h]; rfl
theorem scanR_at {p : Geo.Pt} : ∀ {l : List Geo.S} {k : Nat} (ins : Bool), k < l.length → (∀ j, j < k → Geo.onR (nthS l j) p = false) → Geo.onR (nthS l k) p = true → Geo.scanR p l ins = 1
  | [], k, ins, h, _, _ => by simp at h
  | s :: l, 0, ins, h, _, h2 => by
    unfold Geo.scanR
    rw [show Geo.onR s p = true from h2]; rfl
  | s :: l, k + 1, ins, h, h1, h2 => by
    unfold Geo.scanR
    rw [show Geo.onR s p = false from h1 0 (by omega)]
    exact scanR_at (l := l) (k := k) _ (by simpa using h) (fun j hj => h1 (j + 1) (by omega)) h2
theorem scanR_end {p : Geo.Pt} : ∀ {l : List Geo.S} (ins : Bool), (∀ j, j < l.length → Geo.onR (nthS l j) p = false) → Geo.scanR p l ins = if l.foldl (fun b s => b != Geo.hitR s p) ins = true then 2 else 0
  | [], ins, _ => rfl
  | s :: l, ins, h1 => by
    unfold Geo.scanR
    rw [show Geo.onR s p = false from h1 0 (by simp)]
    exact scanR_end (l := l) _ (fun j hj => h1 (j + 1) (by simpa using hj))
def pr (r : Geo.Ring) (p : Geo.Pt) (k : Nat) : Bool := parR p ((Geo.edges r).take k)
theorem edge_bd {r : Geo.Ring} (h : Geo.validR r = true) {j : Nat} (hj : j < (Geo.edges r).length) : bd 2000 (nthS (Geo.edges r) j).a ∧ bd 2000 (nthS (Geo.edges r) j).b := by
  obtain ⟨h1, h2, h3, _⟩ := (validR_iff r).1 h
  rw [edges_length r (by omega)] at hj
  rw [nthS_edges (by omega) hj]
  exact ⟨near_bd h3 hj, near_bd h3 (Nat.mod_lt _ (by omega))⟩
def nxR (r : Geo.Ring) (i k : Nat) : Bool := decide (k = i + 1 ∨ (i = 0 ∧ k = r.length - 1))
abbrev nE (r : Geo.Ring) (i : Nat) : Geo.S := nthS (Geo.edges r) i
def upR (e : Geo.S) (p : Geo.Pt) : Bool := decide (e.a.y * p.den ≤ p.y) && decide (p.y < e.b.y * p.den)
def dnR (e : Geo.S) (p : Geo.Pt) : Bool := decide (e.b.y * p.den ≤ p.y) && decide (p.y < e.a.y * p.den)
def tp (r : Geo.Ring) (i : Nat) : Prop := Geo.turn (nth r i) (nth r ((i + 1) % r.length)) (nth r ((i + 2) % r.length)) ≠ 0
def c91 : Con := con (a1 (aL .V)) (fun r => [r.length ≤ 100000]) (fun r => .bool (Geo.validR r))
theorem k91 : c91.Ok Tryz.prog 91 := con_ok (cx_ok t165o) (raw := noRaw) (fun r => [jP 4 [3 ≤ r.length, r.length ≤ 40, Geo.near r = true], cnt 5 4 r.length (upto (tp r)), cnt 11 6 r.length (upto fun i => ∀ k, i < k → k < r.length → pairR r i k = true) fun i => [(14, .mk Nat (fun F _ => natAt F 7) [] (fun k => [i < k, k ≤ r.length, ∀ j, i < j → j < k → pairR r i j = true]) (fun k => [(7, .int .i64 (k : Int))]) (fun _ => []) (fun k => r.length - k) fun k => [jb 17 8 (nxR r i k), jb 19 97 (!pairR r i k)])]]
  ) (fun _ => ⟨_, rfl⟩) fun r hp => by_vc (q := (((r.length : Int) < 3 → false = Geo.validR r) ∧
  (¬ (r.length : Int) < 3 → (40 < (r.length : Int) → false = Geo.validR r) ∧
   (¬ 40 < (r.length : Int) → r.length ≤ 100000 ∧ ((!Geo.near r) = true → false = Geo.validR r) ∧
    ((!Geo.near r) = false → (3 : Nat) ≤ r.length ∧ r.length ≤ 40 ∧ Geo.near r = true)))) ∧
 (∀ y : Unit, (3 : Nat) ≤ r.length ∧ r.length ≤ 40 ∧ Geo.near r = true → (0 = (0 : Int) ∧ (0 : Nat) ≤ r.length ∧ upto (tp r) 0) ∧
  (∀ x : Nat, x ≤ r.length ∧ upto (tp r) x → ((x : Int) < r.length → ix (x : Int) r.length ∧ in64 ((x : Int) + 1) ∧ (r.length : Int) ≠ 0 ∧ ix (((x + 1) % r.length : Nat) : Int) r.length ∧ in64 ((x : Int) + 2) ∧ (r.length : Int) ≠ 0 ∧ ix (((x + 2) % r.length : Nat) : Int) r.length ∧ bd 1000000000 (nth r x) ∧ bd 1000000000 (nth r ((x + 1) % r.length)) ∧ bd 1000000000 (nth r ((x + 2) % r.length)) ∧ (Geo.turn (nth r x) (nth r ((x + 1) % r.length)) (nth r ((x + 2) % r.length)) = 0 → false = Geo.validR r) ∧
    (¬ Geo.turn (nth r x) (nth r ((x + 1) % r.length)) (nth r ((x + 2) % r.length)) = 0 → in64 ((x : Int) + 1) ∧ (x : Int) + 1 = ((x + 1 : Nat) : Int) ∧ x + 1 ≤ r.length ∧ upto (tp r) (x + 1) ∧ r.length - (x + 1) < r.length - x)) ∧
   (¬ (x : Int) < r.length → r.length ≤ 100000 ∧ (0 = (0 : Int) ∧ (0 : Nat) ≤ r.length ∧ upto (fun i => ∀ k : Nat, i < k → k < r.length → pairR r i k = true) 0) ∧
    (∀ x_1 : Nat, x_1 ≤ r.length ∧ upto (fun i => ∀ k : Nat, i < k → k < r.length → pairR r i k = true) x_1 → ((x_1 : Int) < r.length → in64 ((x_1 : Int) + 1) ∧ ((x_1 : Int) + 1 = ((x_1 + 1 : Nat) : Int) ∧ x_1 < x_1 + 1 ∧ x_1 + 1 ≤ r.length ∧ (∀ j : Nat, x_1 < j → j < x_1 + 1 → pairR r x_1 j = true)) ∧
      (∀ x_2 : Nat, x_1 < x_2 ∧ x_2 ≤ r.length ∧ (∀ j : Nat, x_1 < j → j < x_2 → pairR r x_1 j = true) → ((x_2 : Int) < r.length → (in64 ((x_1 : Int) + 1) ∧ ((x_2 : Int) = x_1 + 1 → true = nxR r x_1 x_2) ∧
         (¬ (x_2 : Int) = x_1 + 1 → ((x_1 : Int) = 0 → in64 ((r.length : Int) - 1) ∧ decide ((x_2 : Int) = r.length - 1) = nxR r x_1 x_2) ∧
          (¬ (x_1 : Int) = 0 → false = nxR r x_1 x_2))) ∧
        (∀ y_1 : Unit, ix (x_1 : Int) (Geo.edges r).length ∧ ix (x_2 : Int) (Geo.edges r).length ∧ ((nxR r x_1 x_2 = true → (¬ Geo.meetR (nthS (Geo.edges r) x_1) (nthS (Geo.edges r) x_2) = 1 → true = (!pairR r x_1 x_2)) ∧
           (¬ (¬ Geo.meetR (nthS (Geo.edges r) x_1) (nthS (Geo.edges r) x_2) = 1) → ((!nxR r x_1 x_2) = true → decide (¬ Geo.meetR (nthS (Geo.edges r) x_1) (nthS (Geo.edges r) x_2) = 0) = (!pairR r x_1 x_2)) ∧
            ((!nxR r x_1 x_2) = false → false = (!pairR r x_1 x_2)))) ∧
          (nxR r x_1 x_2 = false → ((!nxR r x_1 x_2) = true → decide (¬ Geo.meetR (nthS (Geo.edges r) x_1) (nthS (Geo.edges r) x_2) = 0) = (!pairR r x_1 x_2)) ∧
           ((!nxR r x_1 x_2) = false → false = (!pairR r x_1 x_2)))) ∧
         (∀ y_2 : Unit, ((!pairR r x_1 x_2) = true → false = Geo.validR r) ∧
          ((!pairR r x_1 x_2) = false → in64 ((x_2 : Int) + 1) ∧ (x_2 : Int) + 1 = ((x_2 + 1 : Nat) : Int) ∧ x_1 < x_2 + 1 ∧ x_2 + 1 ≤ r.length ∧ (∀ j : Nat, x_1 < j → j < x_2 + 1 → pairR r x_1 j = true) ∧ r.length - (x_2 + 1) < r.length - x_2)))) ∧
       (¬ (x_2 : Int) < r.length → in64 ((x_1 : Int) + 1) ∧ (x_1 : Int) + 1 = ((x_1 + 1 : Nat) : Int) ∧ x_1 + 1 ≤ r.length ∧ upto (fun i => ∀ k : Nat, i < k → k < r.length → pairR r i k = true) (x_1 + 1) ∧ r.length - (x_1 + 1) < r.length - x_1))) ∧
     (¬ (x_1 : Int) < r.length → Geo.near r = true ∧ r.length ≤ 100000 ∧ decide (0 < Geo.area r) = Geo.validR r)))))) (by kernel_rfl) (by
  change r.length ≤ 100000 at hp
  have iff := validR_iff r
  have hf : (Geo.validR r = true → False) → false = Geo.validR r := fun h => by cases e : Geo.validR r; rfl; exact (h e).elim
  have el : 3 ≤ r.length → (Geo.edges r).length = r.length := fun h => edges_length r (by omega)
  have en : Geo.near r = true → ∀ i, i < r.length → bd 1000000000 (nth r i) := fun h i hi => near_bd h hi
  have hp' : 3 ≤ r.length → ∀ i k, i < k → k < r.length → pairR r i k = if nxR r i k = true then Geo.meetR (nthS (Geo.edges r) i) (nthS (Geo.edges r) k) == 1 else Geo.meetR (nthS (Geo.edges r) i) (nthS (Geo.edges r) k) == 0 := fun h i k h1 h2 => by
    unfold pairR nxR; rw [nthS_edges (by omega) (by omega), nthS_edges (by omega) (by omega)]; simp only [decide_eq_true_eq]
  have hE : 3 ≤ r.length → r.length ≤ 40 → Geo.near r = true → ∀ x y : Nat, ¬ (x : Int) < r.length → ¬ (y : Int) < r.length → upto (tp r) x → upto (fun i => ∀ k : Nat, i < k → k < r.length → pairR r i k = true) y → decide (0 < Geo.area r) = Geo.validR r := fun h1 h2 h3 x y hx hy h4 h5 => by
    rw [Bool.eq_iff_iff, iff, decide_eq_true_eq]
    exact ⟨fun h => ⟨h1, h2, h3, fun i hi => h4 i (by omega), fun i k hi hk => h5 i (by omega) k hi hk, h⟩, fun h => h.2.2.2.2.2⟩
  repeat' first | with_reducible apply And.intro | with_reducible intro
  all_goals repeat with_reducible cases ‹_ ∧ _›
  all_goals first | assumption | rfl | exact trivial | exact nb ‹_› | exact nb' ‹_› | omega | exact ix_mod (by omega) | (unfold ix; omega) | (unfold in64; omega) | exact upto_zero _ | exact upto_succ ‹_› ‹_› | (refine upto_succ ‹_› ?_; simp_all; done) | exact en ‹_› _ (by omega) | exact en ‹_› _ (Nat.mod_lt _ (by omega)) | (rw [el ‹_›]; exact ix_nat (by omega)) | exact hE ‹_› ‹_› ‹_› _ _ ‹_› ‹_› ‹_› ‹_› | (refine hf fun h => ?_; have h := iff.1 h; first | omega | (exact h.2.2.2.1 _ (by omega) ‹_ = 0›) | (have h2 := h.2.2.2.2.1 _ _ ‹_› (by omega); simp_all; done) | (simp_all; done)) | (refine upto_succ ‹_› ?_; grind) | (unfold nxR; exact (decide_eq_true (by omega)).symm) | (unfold nxR; exact (decide_eq_false (by omega)).symm) | (unfold nxR; exact decide_eq_decide.2 (by omega)) | (rw [hp' ‹_› _ _ ‹_› (by omega), ‹nxR _ _ _ = _›]; grind) | (intro j h1 h2; omega) | grind)
def t91 : Tab := tabL [(91, c91)] t165
theorem t91o : t91.Ok Tryz.prog := tabL_ok t165o ⟨k91, trivial⟩
def c103 : Con := con (ac (aL .V) (a1 aT)) (fun (r, _) => [r.length ≤ 100000]) (fun (r, p) => .int .i64 (Geo.whereR r p))
theorem k103 : c103.Ok Tryz.prog 103 := con_ok (cx_ok t91o) (raw := noRaw) (fun (r, p) => [jP 3 [Geo.validR r = true, Geo.validPt p = true], lp 6 7 (Geo.edges r).length (fun k => [upto (fun j => Geo.onR (nE r j) p = false) k]) [] (fun k => [(6, .bool (pr r p k))]) (fun _ => []) fun k => [(10012, .mk Unit (fun _ _ => some ()) [] (fun _ => []) (fun _ => [(10, .bool (upR (nE r k) p)), (11, .bool (dnR (nE r k) p))]) (fun _ => []) (fun _ => 0) fun _ => []), jb 13 97 (Geo.hitR (nE r k) p)]]
  ) (fun (_, _) => ⟨_, rfl⟩) fun (r, p) hp => by_vc (q := (r.length ≤ 100000 ∧ ((!Geo.validR r) = true → 0 = Geo.whereR r p) ∧
  ((!Geo.validR r) = false → ((!Geo.validPt p) = true → 0 = Geo.whereR r p) ∧
   ((!Geo.validPt p) = false → Geo.validR r = true ∧ Geo.validPt p = true))) ∧
 (∀ y : Unit, Geo.validR r = true ∧ Geo.validPt p = true → r.length ≤ 100000 ∧ (0 = (0 : Int) ∧ false = pr r p 0 ∧ (0 : Nat) ≤ (Geo.edges r).length ∧ upto (fun j => Geo.onR (nE r j) p = false) 0) ∧
  (∀ x : Nat, x ≤ (Geo.edges r).length ∧ upto (fun j => Geo.onR (nE r j) p = false) x → ((x : Int) < (Geo.edges r).length → ix (x : Int) (Geo.edges r).length ∧ bd 10000 (nE r x).a ∧ bd 10000 (nE r x).b ∧ PtB p ∧ (Geo.onR (nE r x) p = true → 1 = Geo.whereR r p) ∧
    (Geo.onR (nE r x) p = false → ix (x : Int) (Geo.edges r).length ∧ ix (x : Int) (Geo.edges r).length ∧ (in64 ((nE r x).a.y * p.den) ∧ ((nE r x).a.y * p.den ≤ p.y → in64 ((nE r x).b.y * p.den) ∧ in64 ((nE r x).b.y * p.den) ∧ ((nE r x).b.y * p.den ≤ p.y → in64 ((nE r x).a.y * p.den) ∧ decide (p.y < (nE r x).b.y * p.den) = upR (nE r x) p ∧ decide (p.y < (nE r x).a.y * p.den) = dnR (nE r x) p) ∧
       (¬ (nE r x).b.y * p.den ≤ p.y → decide (p.y < (nE r x).b.y * p.den) = upR (nE r x) p ∧ false = dnR (nE r x) p)) ∧
      (¬ (nE r x).a.y * p.den ≤ p.y → in64 ((nE r x).b.y * p.den) ∧ ((nE r x).b.y * p.den ≤ p.y → in64 ((nE r x).a.y * p.den) ∧ false = upR (nE r x) p ∧ decide (p.y < (nE r x).a.y * p.den) = dnR (nE r x) p) ∧
       (¬ (nE r x).b.y * p.den ≤ p.y → false = upR (nE r x) p ∧ false = dnR (nE r x) p))) ∧
     (∀ y_1 : Unit, ((upR (nE r x) p = true → bd 10000 (nE r x).a ∧ bd 10000 (nE r x).b ∧ PtB p ∧ (0 < Geo.sgn (Geo.sideP (nE r x) p) → true = Geo.hitR (nE r x) p) ∧
        (¬ 0 < Geo.sgn (Geo.sideP (nE r x) p) → (dnR (nE r x) p = true → bd 10000 (nE r x).a ∧ bd 10000 (nE r x).b ∧ PtB p ∧ decide (Geo.sgn (Geo.sideP (nE r x) p) < 0) = Geo.hitR (nE r x) p) ∧
         (dnR (nE r x) p = false → false = Geo.hitR (nE r x) p))) ∧
       (upR (nE r x) p = false → (dnR (nE r x) p = true → bd 10000 (nE r x).a ∧ bd 10000 (nE r x).b ∧ PtB p ∧ decide (Geo.sgn (Geo.sideP (nE r x) p) < 0) = Geo.hitR (nE r x) p) ∧
        (dnR (nE r x) p = false → false = Geo.hitR (nE r x) p))) ∧
      (∀ y_2 : Unit, (Geo.hitR (nE r x) p = true → in64 ((x : Int) + 1) ∧ (x : Int) + 1 = ((x + 1 : Nat) : Int) ∧ (!pr r p x) = pr r p (x + 1) ∧ x + 1 ≤ (Geo.edges r).length ∧ upto (fun j => Geo.onR (nE r j) p = false) (x + 1) ∧ (Geo.edges r).length - (x + 1) < (Geo.edges r).length - x) ∧
       (Geo.hitR (nE r x) p = false → in64 ((x : Int) + 1) ∧ (x : Int) + 1 = ((x + 1 : Nat) : Int) ∧ pr r p x = pr r p (x + 1) ∧ x + 1 ≤ (Geo.edges r).length ∧ upto (fun j => Geo.onR (nE r j) p = false) (x + 1) ∧ (Geo.edges r).length - (x + 1) < (Geo.edges r).length - x))))) ∧
   (¬ (x : Int) < (Geo.edges r).length → (pr r p x = true → 2 = Geo.whereR r p) ∧
    (pr r p x = false → 0 = Geo.whereR r p))))) (by kernel_rfl) (by
  change r.length ≤ 100000 at hp
  have e0 : pr r p 0 = false := rfl
  have es : ∀ k, k < (Geo.edges r).length → pr r p (k + 1) = (pr r p k != Geo.hitR (nE r k) p) := fun k h => parR_succ h
  have eh : ∀ e, Geo.hitR e p = (upR e p && decide (0 < Geo.sgn (Geo.sideP e p)) || dnR e p && decide (Geo.sgn (Geo.sideP e p) < 0)) := fun e => rfl
  have hw0 : Geo.validR r = false ∨ Geo.validPt p = false → 0 = Geo.whereR r p := fun h => by unfold Geo.whereR; rcases h with h | h <;> simp [h]
  have hw : Geo.validR r = true → Geo.validPt p = true → Geo.whereR r p = Geo.scanR p (Geo.edges r) false := fun h1 h2 => by unfold Geo.whereR; simp [h1, h2]
  have eb : Geo.validR r = true → ∀ j, j < (Geo.edges r).length → bd 2000 (nE r j).a ∧ bd 2000 (nE r j).b := fun h j hj => edge_bd h hj
  have el : (Geo.edges r).length ≤ 100000 := by unfold Geo.edges; split <;> simp <;> omega
  have ey : Geo.validR r = true → Geo.validPt p = true → ∀ j, j < (Geo.edges r).length → in64 ((nE r j).a.y * p.den) ∧ in64 ((nE r j).b.y * p.den) := fun h1 h2 j hj => ⟨i64w (by have := (PtB.of h2).off (eb h1 j hj).1.mono; omega), i64w (by have := (PtB.of h2).off (eb h1 j hj).2.mono; omega)⟩
  have s1 : ∀ j, j < (Geo.edges r).length → upto (fun j => Geo.onR (nE r j) p = false) j → Geo.onR (nE r j) p = true → Geo.scanR p (Geo.edges r) false = 1 := fun j h1 h2 h3 => scanR_at false h1 h2 h3
  have s2 : ∀ k : Nat, ¬ (k : Int) < (Geo.edges r).length → k ≤ (Geo.edges r).length → upto (fun j => Geo.onR (nE r j) p = false) k → Geo.scanR p (Geo.edges r) false = if pr r p k = true then 2 else 0 := fun k h1 h2 h => by
    obtain rfl : k = (Geo.edges r).length := by omega
    rw [scanR_end false h]; unfold pr parR; rw [List.take_length]
  repeat' first | with_reducible apply And.intro | with_reducible intro
  all_goals repeat with_reducible cases ‹_ ∧ _›
  all_goals first | assumption | rfl | exact trivial | exact nb ‹_› | exact nb' ‹_› | omega | exact ix_mod (by omega) | (unfold ix; omega) | (unfold in64; omega) | exact upto_zero _ | exact upto_succ ‹_› ‹_› | (refine upto_succ ‹_› ?_; simp_all; done) | exact (eb ‹_› _ (by omega)).1.mono | exact (eb ‹_› _ (by omega)).2.mono | exact (ey ‹_› ‹_› _ (by omega)).1 | exact (ey ‹_› ‹_› _ (by omega)).2 | exact PtB.of ‹_› | exact hw0 (.inl (nb' ‹_›)) | exact hw0 (.inr (nb' ‹_›)) | (rw [hw ‹_› ‹_›, s1 _ (by omega) ‹_› ‹_›]) | (rw [hw ‹_› ‹_›, s2 _ ‹_› ‹_› ‹_›, ‹pr _ _ _ = _›]; rfl) | (rw [es _ (by omega), ‹Geo.hitR _ _ = _›]; simp; done) | (rw [eh, ‹upR _ _ = _›, ‹dnR _ _ = _›]; grind) | (rw [eh, ‹upR _ _ = _›]; simp_all; done) | (unfold upR; simp_all; done) | (unfold dnR; simp_all; done) | grind)
def t103 : Tab := tabL [(103, c103)] t91
theorem t103o : t103.Ok Tryz.prog := tabL_ok t91o ⟨k103, trivial⟩
end
end Go.Proofs.YtdaeofhdgabhjaaGreat
namespace Go.Proofs.YtdaeofhdgabhjaaGreat
open Go.RowKit
set_option maxRecDepth 100000
noncomputable section
open Geo (edgesS nth nthR)
def c36 : Con := con (ac (aL .V) (a1 aV)) (fun (r, _) => [r.length ≤ 100000]) (fun (r, v) => .int .i64 (Geo.whereVR r v)
  )
theorem k36 : c36.Ok Tryz.prog 36 := con_ok (cx_ok t103o) (raw := noRaw) (fun (_, _) => []) (fun (_, _) => ⟨_, rfl⟩) fun (r, v) hp => by_vc (q := (0 : Int) ≤ 8000 ∧ (8000 : Int) ≤ 1000000000000 ∧ ((!Geo.within v 8000) = true → 0 = Geo.whereVR r v) ∧
 ((!Geo.within v 8000) = false → r.length ≤ 100000 ∧ Geo.whereR r (Geo.ptOf v) = Geo.whereVR r v)) (by kernel_rfl) (by
  change r.length ≤ 100000 at hp
  unfold Geo.whereVR
  exact ⟨by decide, by decide, fun h => by rw [h]; rfl, fun h => ⟨hp, by rw [h]; rfl⟩⟩)
def t36 : Tab := tabL [(36, c36)] t103
theorem t36o : t36.Ok Tryz.prog := tabL_ok t103o ⟨k36, trivial⟩
def c97 : Con := con (a1 aT) (fun p => [Geo.validPt p = true, p.den = 1]) (fun p => .tup [.agg [.int .i64 p.x, .int .i64 p.y], .bool true]
  )
theorem k97 : c97.Ok Tryz.prog 97 := con_ok (cx_ok t36o) (raw := noRaw) (fun _ => []) (fun _ => ⟨_, rfl⟩) fun p hp => by_vc (q := ((!Geo.validPt p) = true → 0 = p.x ∧ 0 = p.y ∧ false = true) ∧
 ((!Geo.validPt p) = false → (¬ p.den = 1 → 0 = p.x ∧ 0 = p.y ∧ false = true) ∧
  (¬ (¬ p.den = 1) → p.x = p.x ∧ p.y = p.y ∧ true = true))) (by kernel_rfl) (by
  change Geo.validPt p = true ∧ p.den = 1 at hp
  obtain ⟨h1, h2⟩ := hp
  repeat' first | with_reducible apply And.intro | with_reducible intro
  all_goals repeat with_reducible cases ‹_ ∧ _›
  all_goals first | assumption | rfl | exact trivial | exact nb ‹_› | exact nb' ‹_› | omega | exact ix_mod (by omega) | (unfold ix; omega) | (unfold in64; omega) | exact upto_zero _ | exact upto_succ ‹_› ‹_› | (refine upto_succ ‹_› ?_; simp_all; done) | grind)
def t97 : Tab := tabL [(97, c97)] t36
theorem t97o : t97.Ok Tryz.prog := tabL_ok t36o ⟨k97, trivial⟩
def c96 : Con := con (ac aS (a1 aS)) (fun (s, t) => [Geo.meetR s t = 1]) (fun (s, t) => .tup [aT.enc (Geo.ptOf (nth (Geo.commonR s t) 0)), .bool true]
  )
theorem k96 : c96.Ok Tryz.prog 96 := con_ok (cx_ok t97o) (raw := noRaw) (fun (_, _) => []) (fun (_, _) => ⟨_, rfl⟩) fun (s, t) hp => by_vc (q := (Geo.meetR s t = 1 → ix 0 (Geo.commonR s t).length ∧ (Geo.ptOf (nth (Geo.commonR s t) 0)).x = (Geo.ptOf (nth (Geo.commonR s t) 0)).x ∧ (Geo.ptOf (nth (Geo.commonR s t) 0)).y = (Geo.ptOf (nth (Geo.commonR s t) 0)).y ∧ (Geo.ptOf (nth (Geo.commonR s t) 0)).den = (Geo.ptOf (nth (Geo.commonR s t) 0)).den ∧ true = true) ∧
 (¬ Geo.meetR s t = 1 → (Geo.meetR s t = 2 → bd 1000000000 s.b ∧ bd 1000000000 s.a ∧ bd 1000000000 t.b ∧ bd 1000000000 t.a ∧ bd 2000000000 (Geo.sub s.b s.a) ∧ bd 2000000000 (Geo.sub t.b t.a) ∧ bd 1000000000 t.a ∧ bd 1000000000 s.a ∧ bd 2000000000 (Geo.sub t.a s.a) ∧ bd 2000000000 (Geo.sub t.b t.a) ∧ in64 (s.a.x * Geo.cross (Geo.sub s.b s.a) (Geo.sub t.b t.a)) ∧ in64 ((Geo.sub s.b s.a).x * Geo.cross (Geo.sub t.a s.a) (Geo.sub t.b t.a)) ∧ in64 (s.a.x * Geo.cross (Geo.sub s.b s.a) (Geo.sub t.b t.a) + (Geo.sub s.b s.a).x * Geo.cross (Geo.sub t.a s.a) (Geo.sub t.b t.a)) ∧ in64 (s.a.y * Geo.cross (Geo.sub s.b s.a) (Geo.sub t.b t.a)) ∧ in64 ((Geo.sub s.b s.a).y * Geo.cross (Geo.sub t.a s.a) (Geo.sub t.b t.a)) ∧ in64 (s.a.y * Geo.cross (Geo.sub s.b s.a) (Geo.sub t.b t.a) + (Geo.sub s.b s.a).y * Geo.cross (Geo.sub t.a s.a) (Geo.sub t.b t.a)) ∧ False) ∧
  (¬ Geo.meetR s t = 2 → 0 = (Geo.ptOf (nth (Geo.commonR s t) 0)).x ∧ 0 = (Geo.ptOf (nth (Geo.commonR s t) 0)).y ∧ 0 = (Geo.ptOf (nth (Geo.commonR s t) 0)).den ∧ false = true))) (by kernel_rfl) (by
  change Geo.meetR s t = 1 at hp
  have hl : (Geo.commonR s t).length = 1 := by unfold Geo.meetR at hp; grind
  repeat' first | with_reducible apply And.intro | with_reducible intro
  all_goals repeat with_reducible cases ‹_ ∧ _›
  all_goals first | assumption | rfl | exact trivial | exact nb ‹_› | exact nb' ‹_› | omega | exact ix_mod (by omega) | (unfold ix; omega) | (unfold in64; omega) | exact upto_zero _ | exact upto_succ ‹_› ‹_› | (refine upto_succ ‹_› ?_; simp_all; done) | (rw [hl]; exact ix_nat (by omega)) | grind)
def t96 : Tab := tabL [(96, c96)] t97
theorem t96o : t96.Ok Tryz.prog := tabL_ok t97o ⟨k96, trivial⟩
theorem leastUp_le (r : Geo.Ring) : ∀ k, Geo.leastUp r k ≤ k
  | 0 => Nat.le_refl _
  | k + 1 => by unfold Geo.leastUp; have := leastUp_le r k; split <;> omega
theorem leastUp_lt {r : Geo.Ring} {k : Nat} (h : 0 < k) : Geo.leastUp r k < k := Geo.leastUp_lt r k h
theorem lu_succ (r : Geo.Ring) (k : Nat) : Geo.leastUp r (k + 1) = if Geo.lessV (nth r k) (nth r (Geo.leastUp r k)) = true then k else Geo.leastUp r k := rfl
def canonRR (r : Geo.Ring) : Geo.Ring := if Geo.validR r then Geo.begin r else []
def c146 : Con := con (a1 (aL .V)) (fun r => [r.length ≤ 100000]) (fun r => .lst .V (Geo.begin r))
theorem k146 : c146.Ok Tryz.prog 146 := con_ok (cx_ok t96o) (raw := noRaw) (fun r => [lp 3 4 r.length (fun _ => []) [] (fun k => [(3, .int .i64 (Geo.leastUp r k))]) (fun _ => [])]
  ) (fun _ => ⟨_, rfl⟩) fun r hp => by_vc (q := (0 = (0 : Int) ∧ 0 = (Geo.leastUp r 0 : Int) ∧ (0 : Nat) ≤ r.length) ∧
 (∀ x : Nat, x ≤ r.length → ((x : Int) < r.length → ix (x : Int) r.length ∧ ix (Geo.leastUp r x : Int) r.length ∧ (Geo.lessV (nth r x) (nth r (Geo.leastUp r x)) = true → in64 ((x : Int) + 1) ∧ (x : Int) + 1 = ((x + 1 : Nat) : Int) ∧ (x : Int) = Geo.leastUp r (x + 1) ∧ x + 1 ≤ r.length ∧ r.length - (x + 1) < r.length - x) ∧
   (Geo.lessV (nth r x) (nth r (Geo.leastUp r x)) = false → in64 ((x : Int) + 1) ∧ (x : Int) + 1 = ((x + 1 : Nat) : Int) ∧ (Geo.leastUp r x : Int) = Geo.leastUp r (x + 1) ∧ x + 1 ≤ r.length ∧ r.length - (x + 1) < r.length - x)) ∧
  (¬ (x : Int) < r.length → (0 ≤ (Geo.leastUp r x : Int) ∧ (Geo.leastUp r x : Int) ≤ r.length) ∧ ([] : List Geo.V).length + (List.drop (Geo.leastUp r x) r).length ≤ 1000000 ∧ (0 ≤ (Geo.leastUp r x : Int) ∧ (Geo.leastUp r x : Int) ≤ r.length) ∧ (([] : List Geo.V) ++ List.drop (Geo.leastUp r x) r).length = (([] : List Geo.V) ++ List.drop (Geo.leastUp r x) r).length ∧ (([] : List Geo.V) ++ List.drop (Geo.leastUp r x) r).length + (List.take (Geo.leastUp r x) r).length ≤ 1000000 ∧ (([] : List Geo.V) ++ List.drop (Geo.leastUp r x) r ++ List.take (Geo.leastUp r x) r).length = (([] : List Geo.V) ++ List.drop (Geo.leastUp r x) r ++ List.take (Geo.leastUp r x) r).length ∧ ([] : List Geo.V) ++ List.drop (Geo.leastUp r x) r ++ List.take (Geo.leastUp r x) r = Geo.begin r))) (by kernel_rfl) (by
  change r.length ≤ 100000 at hp
  have e0 : Geo.leastUp r 0 = 0 := rfl
  have es := lu_succ r
  have el := leastUp_le r
  have eb : ([] : List Geo.V) ++ List.drop (Geo.leastUp r r.length) r ++ List.take (Geo.leastUp r r.length) r = Geo.begin r := rfl
  repeat' first | with_reducible apply And.intro | with_reducible intro
  all_goals repeat with_reducible cases ‹_ ∧ _›
  all_goals first | assumption | rfl | exact trivial | exact nb ‹_› | exact nb' ‹_› | omega | exact ix_mod (by omega) | (unfold ix; omega) | (unfold in64; omega) | exact upto_zero _ | exact upto_succ ‹_› ‹_› | (refine upto_succ ‹_› ?_; simp_all; done) | exact ix_nat (Nat.lt_of_le_of_lt (el _) (by omega)) | (rw [es, if_pos ‹_›]) | (rw [es, if_neg (by simp_all)]) | (have := el r.length; simp; omega) | grind)
def t146 : Tab := tabL [(146, c146)] t96
theorem t146o : t146.Ok Tryz.prog := tabL_ok t96o ⟨k146, trivial⟩
def c71 : Con := con (a1 (aL .V)) (fun r => [r.length ≤ 100000]) (fun r => .lst .V (canonRR r)
  )
theorem k71 : c71.Ok Tryz.prog 71 := con_ok (cx_ok t146o) (raw := noRaw) (fun _ => []) (fun _ => ⟨_, rfl⟩) fun r hp => by_vc (q := r.length ≤ 100000 ∧ ((!Geo.validR r) = true → canonRR r = ([] : List Geo.V)) ∧
 ((!Geo.validR r) = false → r.length ≤ 100000 ∧ Geo.begin r = canonRR r)) (by kernel_rfl) (by
  change r.length ≤ 100000 at hp
  unfold canonRR
  repeat' first | with_reducible apply And.intro | with_reducible intro
  all_goals repeat with_reducible cases ‹_ ∧ _›
  all_goals first | assumption | rfl | exact trivial | exact nb ‹_› | exact nb' ‹_› | omega | exact ix_mod (by omega) | (unfold ix; omega) | (unfold in64; omega) | exact upto_zero _ | exact upto_succ ‹_› ‹_› | (refine upto_succ ‹_› ?_; simp_all; done) | grind)
def t71 : Tab := tabL [(71, c71)] t146
theorem t71o : t71.Ok Tryz.prog := tabL_ok t146o ⟨k71, trivial⟩
theorem same_ne {a b : Geo.Ring} {k : Nat} (h : ¬ nth a k = nth b k) : false = (a == b) := by
  symm; rw [beq_eq_false_iff_ne]; intro e; subst e; exact h rfl
theorem same_all {a b : Geo.Ring} (hl : (a.length : Int) = b.length) {k : Nat} (hk : ¬ (k : Int) < a.length) (h : upto (fun j => nth a j = nth b j) k) : true = (a == b) := by
  symm; rw [beq_iff_eq]
  refine List.ext_getElem (by omega) fun j h1 h2 => ?_
  rw [← nth_eq h1, ← nth_eq h2]; exact h j (by omega)
def c23 : Con := con (ac (aL .V) (a1 (aL .V))) (fun (a, _) => [a.length ≤ 1000000]) (fun (a, b) => .bool (a == b))
theorem k23 : c23.Ok Tryz.prog 23 := con_ok (cx_ok t71o) (raw := noRaw) (fun (a, b) => [cnt 4 5 a.length (upto fun j => nth a j = nth b j)]
  ) (fun (_, _) => ⟨_, rfl⟩) fun (a, b) hp => by_vc (q := (¬ (a.length : Int) = b.length → false = (a == b)) ∧
 (¬ (¬ (a.length : Int) = b.length) → (0 = (0 : Int) ∧ (0 : Nat) ≤ a.length ∧ upto (fun j => nth a j = nth b j) 0) ∧
  (∀ x : Nat, x ≤ a.length ∧ upto (fun j => nth a j = nth b j) x → ((x : Int) < a.length → ix (x : Int) a.length ∧ ix (x : Int) b.length ∧ (¬ (nth a x) = (nth b x) → false = (a == b)) ∧
    (¬ (¬ (nth a x) = (nth b x)) → in64 ((x : Int) + 1) ∧ (x : Int) + 1 = ((x + 1 : Nat) : Int) ∧ x + 1 ≤ a.length ∧ upto (fun j => nth a j = nth b j) (x + 1) ∧ a.length - (x + 1) < a.length - x)) ∧
   (¬ (x : Int) < a.length → true = (a == b))))) (by kernel_rfl) (by
  change a.length ≤ 1000000 at hp
  repeat' first | with_reducible apply And.intro | with_reducible intro
  all_goals repeat with_reducible cases ‹_ ∧ _›
  all_goals first | assumption | rfl | exact trivial | exact nb ‹_› | exact nb' ‹_› | omega | exact ix_mod (by omega) | (unfold ix; omega) | (unfold in64; omega) | exact upto_zero _ | exact upto_succ ‹_› ‹_› | (refine upto_succ ‹_› ?_; simp_all; done) | exact same_ne ‹¬ nth a _ = _› | exact same_all (by omega) ‹_› ‹_› | (symm; rw [beq_eq_false_iff_ne]; intro e; subst e; omega) | grind)
def t23 : Tab := tabL [(23, c23)] t71
theorem t23o : t23.Ok Tryz.prog := tabL_ok t71o ⟨k23, trivial⟩
def c76 : Con := con (ac (aL .V) (a1 (aL .V))) (fun (a, _) => [a.length ≤ 1000000]) (fun (a, b) => .bool (a == b)
  )
theorem k76 : c76.Ok Tryz.prog 76 := con_ok (cx_ok t23o) (raw := noRaw) (fun (_, _) => []) (fun (_, _) => ⟨_, rfl⟩) fun (a, b) hp => by_vc (q := a.length ≤ 1000000 ∧ (a == b) = (a == b)) (by kernel_rfl) (by
  change a.length ≤ 1000000 at hp
  exact ⟨hp, rfl⟩)
def t76 : Tab := tabL [(76, c76)] t23
theorem t76o : t76.Ok Tryz.prog := tabL_ok t23o ⟨k76, trivial⟩
def Fit (s : Geo.Shape) : Prop := s.outer.length ≤ 1000 ∧ s.holes.length ≤ 900 ∧ ∀ r ∈ s.holes, r.length ≤ 1000
theorem Fit.rings {s : Geo.Shape} (hf : Fit s) : ∀ r ∈ Geo.ringsS s, r.length ≤ 1000 := by
  intro r hr
  unfold Geo.ringsS at hr
  rcases List.mem_cons.1 hr with rfl | hr
  · exact hf.1
  · exact hf.2.2 r hr
theorem Fit.ring {s : Geo.Shape} (hf : Fit s) {k : Nat} (hk : k < (Geo.ringsS s).length) : (nthR (Geo.ringsS s) k).length ≤ 1000 := hf.rings _ (Geo.nthR_mem hk)
theorem Fit.hole {s : Geo.Shape} (hf : Fit s) {k : Nat} (hk : k < s.holes.length) : (nthR s.holes k).length ≤ 1000 := hf.2.2 _ (Geo.nthR_mem hk)
theorem Fit.rlen {s : Geo.Shape} (hf : Fit s) : (Geo.ringsS s).length ≤ 901 := by have := hf.2.1; simp [Geo.ringsS]; omega
def eS (s : Geo.Shape) (k : Nat) : List Geo.S := ((Geo.ringsS s).take k).flatMap Geo.edges
theorem eS_succ {s : Geo.Shape} {k : Nat} (h : k < (Geo.ringsS s).length) : eS s k ++ Geo.edges (nthR (Geo.ringsS s) k) = eS s (k + 1) := by
  unfold eS; rw [List.take_add_one, List.getElem?_eq_getElem h, List.flatMap_append, nthR_eq h]; simp
theorem edges_le (r : Geo.Ring) : (Geo.edges r).length ≤ r.length := by unfold Geo.edges; split <;> simp
theorem eS_len {s : Geo.Shape} (hf : Fit s) : ∀ k, k ≤ (Geo.ringsS s).length → (eS s k).length ≤ 1000 * k
  | 0, _ => by simp [eS]
  | k + 1, h => by
    rw [← eS_succ (by omega), List.length_append]
    have := eS_len hf k (by omega)
    have := edges_le (nthR (Geo.ringsS s) k)
    have := hf.ring (k := k) (by omega)
    omega
theorem eS_all (s : Geo.Shape) : eS s (Geo.ringsS s).length = edgesS s := by unfold eS; rw [List.take_length]; rfl
def c101 : Con := con (a1 aSh) (fun s => [Fit s]) (fun s => .lst .R (Geo.ringsS s)
  )
theorem k101 : c101.Ok Tryz.prog 101 := con_ok (cx_ok t76o) (raw := noRaw) (fun _ => []) (fun _ => ⟨_, rfl⟩) fun s hp => by_vc (q := [s.outer].length + s.holes.length ≤ 1000000 ∧ ([s.outer] ++ s.holes).length = ([s.outer] ++ s.holes).length ∧ [s.outer] ++ s.holes = Geo.ringsS s) (by kernel_rfl) (by
  change Fit s at hp
  have h := hp.2.1
  exact ⟨by simp; omega, rfl, rfl⟩)
def t101 : Tab := tabL [(101, c101)] t76
theorem t101o : t101.Ok Tryz.prog := tabL_ok t76o ⟨k101, trivial⟩
def c33 : Con := con (a1 aSh) (fun s => [Fit s]) (fun s => .lst .S (edgesS s))
theorem k33 : c33.Ok Tryz.prog 33 := con_ok (cx_ok t101o) (raw := noRaw) (fun s => [lp 4 5 (Geo.ringsS s).length (fun _ => []) [900] (fun k => [(3, .own 900 .S (eS s k).length)]) (fun k => [(900, .row 46 .S (eS s k))])]
  ) (fun _ => ⟨_, rfl⟩) fun s hp => by_vc (q := Fit s ∧ (0 = (0 : Int) ∧ (eS s 0).length = 0 ∧ eS s 0 = ([] : List Geo.S) ∧ (0 : Nat) ≤ (Geo.ringsS s).length) ∧
 (∀ x : Nat, x ≤ (Geo.ringsS s).length → ((x : Int) < (Geo.ringsS s).length → ix (x : Int) (Geo.ringsS s).length ∧ (nthR (Geo.ringsS s) x).length ≤ 100000 ∧ (eS s x).length = (eS s x).length ∧ (eS s x).length + (Geo.edges (nthR (Geo.ringsS s) x)).length ≤ 1000000 ∧ in64 ((x : Int) + 1) ∧ (x : Int) + 1 = ((x + 1 : Nat) : Int) ∧ (eS s x ++ Geo.edges (nthR (Geo.ringsS s) x)).length = (eS s (x + 1)).length ∧ eS s x ++ Geo.edges (nthR (Geo.ringsS s) x) = eS s (x + 1) ∧ x + 1 ≤ (Geo.ringsS s).length ∧ (Geo.ringsS s).length - (x + 1) < (Geo.ringsS s).length - x) ∧
  (¬ (x : Int) < (Geo.ringsS s).length → (eS s x).length = (eS s x).length ∧ eS s x = edgesS s))) (by kernel_rfl) (by
  change Fit s at hp
  have e0 : eS s 0 = [] := rfl
  have ea := eS_all s
  have er := hp.rlen
  have es := @eS_succ s
  have eb : ∀ k, k < (Geo.ringsS s).length → (eS s k).length + (Geo.edges (nthR (Geo.ringsS s) k)).length ≤ 1000000 := fun k h => by
    have := eS_len hp (k + 1) (by omega); rw [← eS_succ h, List.length_append] at this; omega
  have ek := @Fit.ring s hp
  repeat' first | with_reducible apply And.intro | with_reducible intro
  all_goals repeat with_reducible cases ‹_ ∧ _›
  all_goals first | assumption | rfl | exact trivial | exact nb ‹_› | exact nb' ‹_› | omega | exact ix_mod (by omega) | (unfold ix; omega) | (unfold in64; omega) | exact upto_zero _ | exact upto_succ ‹_› ‹_› | (refine upto_succ ‹_› ?_; simp_all; done) | exact es (by omega) | exact congrArg List.length (es (by omega)) | exact Nat.le_trans (ek (by omega)) (by decide) | exact eb _ (by omega) | (rw [← ea]; congr 1; omega) | grind)
def t33 : Tab := tabL [(33, c33)] t101
theorem t33o : t33.Ok Tryz.prog := tabL_ok t101o ⟨k33, trivial⟩
end
end Go.Proofs.YtdaeofhdgabhjaaGreat
namespace Go.Proofs.YtdaeofhdgabhjaaGreat
open Go.RowKit
set_option maxRecDepth 100000
noncomputable section
open Geo (nth nthR)
def insideR (a b : Geo.Ring) (al : Bool) : Bool := if al = true then Geo.insideAllR a b else Geo.insideAnyR a b
theorem insideR_at {a b : Geo.Ring} {al : Bool} {j : Nat} (hj : j < a.length) (h : (Geo.whereVR b (nth a j) == 2) ≠ al) : insideR a b al = !al := by
  unfold insideR Geo.insideAllR Geo.insideAnyR
  cases al with
  | true => rw [if_pos rfl]; exact List.all_eq_false.2 ⟨_, Geo.nth_mem hj, by simpa using h⟩
  | false => rw [if_neg (by simp)]; exact List.any_eq_true.2 ⟨_, Geo.nth_mem hj, by simpa using h⟩
theorem insideR_end {a b : Geo.Ring} {al : Bool} (h : ∀ j, j < a.length → (Geo.whereVR b (nth a j) == 2) = al) : insideR a b al = al := by
  unfold insideR Geo.insideAllR Geo.insideAnyR
  cases al with
  | true =>
    rw [if_pos rfl]; refine List.all_eq_true.2 fun x hx => ?_
    obtain ⟨j, hj, rfl⟩ := List.getElem_of_mem hx
    rw [← nth_eq hj]; exact h j hj
  | false =>
    rw [if_neg (by simp)]; refine List.any_eq_false.2 fun x hx => ?_
    obtain ⟨j, hj, rfl⟩ := List.getElem_of_mem hx
    rw [← nth_eq hj, h j hj]; simp
def holeOk (s : Geo.Shape) (i : Nat) : Bool := Geo.validR (nthR s.holes i) && !Geo.meetsR (nthR s.holes i) s.outer && Geo.insideAllR (nthR s.holes i) s.outer
def pairHS (s : Geo.Shape) (i k : Nat) : Bool := !Geo.meetsR (nthR s.holes i) (nthR s.holes k) && !Geo.insideAnyR (nthR s.holes i) (nthR s.holes k) && !Geo.insideAnyR (nthR s.holes k) (nthR s.holes i)
def cornUp (s : Geo.Shape) (k : Nat) : Nat := s.outer.length + ((s.holes.take k).map List.length).sum
theorem cornUp_zero (s : Geo.Shape) : cornUp s 0 = s.outer.length := by simp [cornUp]
theorem cornUp_succ {s : Geo.Shape} {k : Nat} (h : k < s.holes.length) : cornUp s (k + 1) = cornUp s k + (nthR s.holes k).length := by
  unfold cornUp
  rw [List.take_add_one, List.getElem?_eq_getElem h, List.map_append, List.sum_append, nthR_eq h, ← Nat.add_assoc]; rfl
theorem cornUp_all (s : Geo.Shape) : cornUp s s.holes.length = Geo.cornersS s := by unfold cornUp Geo.cornersS Geo.ringsS; rw [List.take_length]; simp
theorem cornUp_le {s : Geo.Shape} (hf : Fit s) (k : Nat) (hk : k ≤ s.holes.length) : cornUp s k ≤ 1000 * (k + 1) := by
  induction k with
  | zero => have := hf.1; rw [cornUp_zero]; omega
  | succ k ih =>
    rw [cornUp_succ (by omega)]
    have h1 := ih (by omega)
    have h2 := hf.2.2 _ (Geo.nthR_mem (show k < s.holes.length by omega))
    omega
theorem validSR_iff (s : Geo.Shape) : Geo.validSR s = true ↔ s.holes.length ≤ 6 ∧ Geo.validR s.outer = true ∧ (∀ i, i < s.holes.length → holeOk s i = true ∧ ∀ k, k < i → pairHS s i k = true) ∧ Geo.cornersS s ≤ 80 := by
  unfold Geo.validSR
  simp only [Bool.and_eq_true, decide_eq_true_eq, List.all_eq_true, List.mem_range]
  unfold holeOk pairHS
  simp only [Bool.and_eq_true]
  constructor
  · rintro ⟨⟨⟨h1, h2⟩, h3⟩, h4⟩
    exact ⟨h1, h2, fun i hi => ⟨(h3 i hi).1, fun k hk => (h3 i hi).2 k hk⟩, h4⟩
  · rintro ⟨h1, h2, h3, h4⟩
    exact ⟨⟨⟨h1, h2⟩, fun i hi => ⟨(h3 i hi).1, fun k hk => (h3 i hi).2 k hk⟩⟩, h4⟩
theorem meets_at {a b : Geo.Ring} {i j : Nat} (h : ¬ Geo.meetR (nthS (Geo.edges a) i) (nthS (Geo.edges b) j) = 0) (hi : i < (Geo.edges a).length) (hj : j < (Geo.edges b).length) : true = Geo.meetsR a b := by
  unfold Geo.meetsR; symm
  exact List.any_eq_true.2 ⟨_, nthS_mem hi, List.any_eq_true.2 ⟨_, nthS_mem hj, by simpa using h⟩⟩
def noMt (a b : Geo.Ring) (i : Nat) : Prop := ∀ j, j < (Geo.edges b).length → Geo.meetR (nthS (Geo.edges a) i) (nthS (Geo.edges b) j) = 0
theorem meets_no {a b : Geo.Ring} {k : Nat} (hk : ¬ (k : Int) < (Geo.edges a).length) (h : upto (noMt a b) k) : false = Geo.meetsR a b := by
  unfold Geo.meetsR; symm
  refine List.any_eq_false.2 fun x hx => ?_
  obtain ⟨i, hi, rfl⟩ := List.getElem_of_mem hx
  rw [← nthS_eq hi, Bool.not_eq_true]
  refine List.any_eq_false.2 fun y hy => ?_
  obtain ⟨j, hj, rfl⟩ := List.getElem_of_mem hy
  rw [← nthS_eq hj, h i (by omega) j hj]; decide
theorem noMt_of {a b : Geo.Ring} {i k : Nat} (hk : ¬ (k : Int) < (Geo.edges b).length) (h : upto (fun j => Geo.meetR (nthS (Geo.edges a) i) (nthS (Geo.edges b) j) = 0) k) : noMt a b i := fun j hj => h j (by omega)
def c128 : Con := con (ac (aL .V) (a1 (aL .V))) (fun (a, b) => [a.length ≤ 100000, b.length ≤ 100000]) (fun (a, b) => .bool (Geo.meetsR a b))
theorem k128 : c128.Ok Tryz.prog 128 := con_ok (cx_ok t33o) (raw := noRaw) (fun (a, b) => [cnt 3 7 (Geo.edges a).length (upto (noMt a b)) fun i => [cnt 6 8 (Geo.edges b).length (upto fun j => Geo.meetR (nthS (Geo.edges a) i) (nthS (Geo.edges b) j) = 0)]]
  ) (fun (_, _) => ⟨_, rfl⟩) fun (a, b) hp => by_vc (q := a.length ≤ 100000 ∧ b.length ≤ 100000 ∧ (0 = (0 : Int) ∧ (0 : Nat) ≤ (Geo.edges a).length ∧ upto (noMt a b) 0) ∧
 (∀ x : Nat, x ≤ (Geo.edges a).length ∧ upto (noMt a b) x → ((x : Int) < (Geo.edges a).length → (0 = (0 : Int) ∧ (0 : Nat) ≤ (Geo.edges b).length ∧ upto (fun j => Geo.meetR (nthS (Geo.edges a) x) (nthS (Geo.edges b) j) = 0) 0) ∧
   (∀ x_1 : Nat, x_1 ≤ (Geo.edges b).length ∧ upto (fun j => Geo.meetR (nthS (Geo.edges a) x) (nthS (Geo.edges b) j) = 0) x_1 → ((x_1 : Int) < (Geo.edges b).length → ix (x : Int) (Geo.edges a).length ∧ ix (x_1 : Int) (Geo.edges b).length ∧ (¬ Geo.meetR (nthS (Geo.edges a) x) (nthS (Geo.edges b) x_1) = 0 → true = Geo.meetsR a b) ∧
     (¬ (¬ Geo.meetR (nthS (Geo.edges a) x) (nthS (Geo.edges b) x_1) = 0) → in64 ((x_1 : Int) + 1) ∧ (x_1 : Int) + 1 = ((x_1 + 1 : Nat) : Int) ∧ x_1 + 1 ≤ (Geo.edges b).length ∧ upto (fun j => Geo.meetR (nthS (Geo.edges a) x) (nthS (Geo.edges b) j) = 0) (x_1 + 1) ∧ (Geo.edges b).length - (x_1 + 1) < (Geo.edges b).length - x_1)) ∧
    (¬ (x_1 : Int) < (Geo.edges b).length → in64 ((x : Int) + 1) ∧ (x : Int) + 1 = ((x + 1 : Nat) : Int) ∧ x + 1 ≤ (Geo.edges a).length ∧ upto (noMt a b) (x + 1) ∧ (Geo.edges a).length - (x + 1) < (Geo.edges a).length - x))) ∧
  (¬ (x : Int) < (Geo.edges a).length → false = Geo.meetsR a b))) (by kernel_rfl) (by
  change a.length ≤ 100000 ∧ b.length ≤ 100000 at hp
  have ha := edges_le a
  have hb := edges_le b
  repeat' first | with_reducible apply And.intro | with_reducible intro
  all_goals repeat with_reducible cases ‹_ ∧ _›
  all_goals first | assumption | rfl | exact trivial | exact nb ‹_› | exact nb' ‹_› | omega | exact ix_mod (by omega) | (unfold ix; omega) | (unfold in64; omega) | exact upto_zero _ | exact upto_succ ‹_› ‹_› | (refine upto_succ ‹_› ?_; simp_all; done) | exact meets_at ‹¬ Geo.meetR _ _ = 0› (by omega) (by omega) | exact meets_no ‹_› ‹_› | exact upto_succ ‹_› (noMt_of ‹_› ‹_›) | (refine upto_succ ‹_› ?_; exact Decidable.of_not_not ‹¬ ¬ _›) | grind)
def t128 : Tab := tabL [(128, c128)] t33
theorem t128o : t128.Ok Tryz.prog := tabL_ok t33o ⟨k128, trivial⟩
def inQ (a b : Geo.Ring) (al : Bool) (j : Nat) : Prop := (Geo.whereVR b (nth a j) == 2) = al
def c129 : Con := con (ac (aL .V) (ac (aL .V) (a1 aB))) (fun (a, b, _) => [a.length ≤ 100000, b.length ≤ 100000]) (fun (a, b, al) => .bool (insideR a b al))
theorem k129 : c129.Ok Tryz.prog 129 := con_ok (cx_ok t128o) (raw := noRaw) (fun (a, b, al) => [cnt 2 7 a.length (upto (inQ a b al))]
  ) (fun (_, _, _) => ⟨_, rfl⟩) fun (a, b, al) hp => by_vc (q := (0 = (0 : Int) ∧ (0 : Nat) ≤ a.length ∧ upto (inQ a b al) 0) ∧
 (∀ x : Nat, x ≤ a.length ∧ upto (inQ a b al) x → ((x : Int) < a.length → ix (x : Int) a.length ∧ b.length ≤ 100000 ∧ ((decide (Geo.whereVR b (nth a x) = 2) != al) = true → (!al) = insideR a b al) ∧
   ((decide (Geo.whereVR b (nth a x) = 2) != al) = false → in64 ((x : Int) + 1) ∧ (x : Int) + 1 = ((x + 1 : Nat) : Int) ∧ x + 1 ≤ a.length ∧ upto (inQ a b al) (x + 1) ∧ a.length - (x + 1) < a.length - x)) ∧
  (¬ (x : Int) < a.length → al = insideR a b al))) (by kernel_rfl) (by
  change a.length ≤ 100000 ∧ b.length ≤ 100000 at hp
  have c1 : ∀ j : Nat, (decide (Geo.whereVR b (nth a j) = 2) != al) = true → j < a.length → (!al) = insideR a b al := fun j h hj => (insideR_at hj (bne_iff_ne.1 h)).symm
  have c2 : ∀ j : Nat, (decide (Geo.whereVR b (nth a j) = 2) != al) = false → inQ a b al j := fun j h => bne_eq_false_iff_eq.1 h
  have e2 : ∀ k : Nat, ¬ (k : Int) < a.length → upto (inQ a b al) k → insideR a b al = al := fun k h1 h2 => insideR_end fun j hj => h2 j (by omega)
  repeat' first | with_reducible apply And.intro | with_reducible intro
  all_goals repeat with_reducible cases ‹_ ∧ _›
  all_goals first | assumption | rfl | exact trivial | exact nb ‹_› | exact nb' ‹_› | omega | exact ix_mod (by omega) | (unfold ix; omega) | (unfold in64; omega) | exact upto_zero _ | exact upto_succ ‹_› ‹_› | (refine upto_succ ‹_› ?_; simp_all; done) | exact (e2 _ ‹_› ‹_›).symm | exact c1 _ ‹_› (by omega) | exact upto_succ ‹_› (c2 _ ‹_›) | grind)
def t129 : Tab := tabL [(129, c129)] t128
theorem t129o : t129.Ok Tryz.prog := tabL_ok t128o ⟨k129, trivial⟩
def c58 : Con := con (a1 aSh) (fun s => [Fit s]) (fun s => .bool (Geo.validSR s))
set_option maxHeartbeats 1000000 in
theorem k58 : c58.Ok Tryz.prog 58 := con_ok (cx_ok t129o) (raw := noRaw) (fun s => [jP 3 [s.holes.length ≤ 6, Geo.validR s.outer = true], lp 5 4 s.holes.length (fun k => [upto (fun i => holeOk s i = true ∧ ∀ k, k < i → pairHS s i k = true) k]) [] (fun k => [(3, .int .i64 (cornUp s k : Int))]) (fun _ => []) fun i => [jP 11 [holeOk s i = true], cnt 12 6 i (upto fun k => pairHS s i k = true)]]
  ) (fun _ => ⟨_, rfl⟩) fun s hp => by_vc (q := ((6 < (s.holes.length : Int) → false = Geo.validSR s) ∧
  (¬ 6 < (s.holes.length : Int) → s.outer.length ≤ 100000 ∧ ((!Geo.validR s.outer) = true → false = Geo.validSR s) ∧
   ((!Geo.validR s.outer) = false → s.holes.length ≤ 6 ∧ Geo.validR s.outer = true))) ∧
 (∀ y : Unit, s.holes.length ≤ 6 ∧ Geo.validR s.outer = true → (0 = (0 : Int) ∧ (s.outer.length : Int) = cornUp s 0 ∧ (0 : Nat) ≤ s.holes.length ∧ upto (fun i => holeOk s i = true ∧ (∀ k : Nat, k < i → pairHS s i k = true)) 0) ∧
  (∀ x : Nat, x ≤ s.holes.length ∧ upto (fun i => holeOk s i = true ∧ (∀ k : Nat, k < i → pairHS s i k = true)) x → ((x : Int) < s.holes.length → ix (x : Int) s.holes.length ∧ in64 ((cornUp s x : Int) + (nthR s.holes x).length) ∧ ((nthR s.holes x).length ≤ 100000 ∧ ((!Geo.validR (nthR s.holes x)) = true → false = Geo.validSR s) ∧
     ((!Geo.validR (nthR s.holes x)) = false → (nthR s.holes x).length ≤ 100000 ∧ s.outer.length ≤ 100000 ∧ (Geo.meetsR (nthR s.holes x) s.outer = true → false = Geo.validSR s) ∧
      (Geo.meetsR (nthR s.holes x) s.outer = false → (nthR s.holes x).length ≤ 100000 ∧ s.outer.length ≤ 100000 ∧ ((!insideR (nthR s.holes x) s.outer true) = true → false = Geo.validSR s) ∧
       ((!insideR (nthR s.holes x) s.outer true) = false → holeOk s x = true)))) ∧
    (∀ y_1 : Unit, holeOk s x = true → (0 = (0 : Int) ∧ (0 : Nat) ≤ x ∧ upto (fun k => pairHS s x k = true) 0) ∧
     (∀ x_1 : Nat, x_1 ≤ x ∧ upto (fun k => pairHS s x k = true) x_1 → ((x_1 : Int) < x → ix (x_1 : Int) s.holes.length ∧ (nthR s.holes x).length ≤ 100000 ∧ (nthR s.holes x_1).length ≤ 100000 ∧ (Geo.meetsR (nthR s.holes x) (nthR s.holes x_1) = true → false = Geo.validSR s) ∧
       (Geo.meetsR (nthR s.holes x) (nthR s.holes x_1) = false → ix (x_1 : Int) s.holes.length ∧ (nthR s.holes x).length ≤ 100000 ∧ (nthR s.holes x_1).length ≤ 100000 ∧ (insideR (nthR s.holes x) (nthR s.holes x_1) false = true → false = Geo.validSR s) ∧
        (insideR (nthR s.holes x) (nthR s.holes x_1) false = false → ix (x_1 : Int) s.holes.length ∧ (nthR s.holes x_1).length ≤ 100000 ∧ (nthR s.holes x).length ≤ 100000 ∧ (insideR (nthR s.holes x_1) (nthR s.holes x) false = true → false = Geo.validSR s) ∧
         (insideR (nthR s.holes x_1) (nthR s.holes x) false = false → in64 ((x_1 : Int) + 1) ∧ (x_1 : Int) + 1 = ((x_1 + 1 : Nat) : Int) ∧ x_1 + 1 ≤ x ∧ upto (fun k => pairHS s x k = true) (x_1 + 1) ∧ x - (x_1 + 1) < x - x_1)))) ∧
      (¬ (x_1 : Int) < x → in64 ((x : Int) + 1) ∧ (x : Int) + 1 = ((x + 1 : Nat) : Int) ∧ (cornUp s x : Int) + (nthR s.holes x).length = cornUp s (x + 1) ∧ x + 1 ≤ s.holes.length ∧ upto (fun i => holeOk s i = true ∧ (∀ k : Nat, k < i → pairHS s i k = true)) (x + 1) ∧ s.holes.length - (x + 1) < s.holes.length - x)))) ∧
   (¬ (x : Int) < s.holes.length → decide ((cornUp s x : Int) ≤ 80) = Geo.validSR s)))) (by kernel_rfl) (by
  change Fit s at hp
  have hf : (Geo.validSR s = true → False) → false = Geo.validSR s := fun h => by cases e : Geo.validSR s; rfl; exact (h e).elim
  have n1 : ∀ i, holeOk s i = false → i < s.holes.length → false = Geo.validSR s := fun i h hi => hf fun hv => by rw [(((validSR_iff s).1 hv).2.2.1 i hi).1] at h; cases h
  have n2 : ∀ i k, pairHS s i k = false → k < i → i < s.holes.length → false = Geo.validSR s := fun i k h hk hi => hf fun hv => by rw [(((validSR_iff s).1 hv).2.2.1 i hi).2 k hk] at h; cases h
  have a1 : ∀ i, (!Geo.validR (nthR s.holes i)) = true → i < s.holes.length → false = Geo.validSR s := fun i h => n1 i (by unfold holeOk; rw [nb' h]; rfl)
  have a2 : ∀ i, Geo.meetsR (nthR s.holes i) s.outer = true → i < s.holes.length → false = Geo.validSR s := fun i h => n1 i (by unfold holeOk; rw [h]; simp)
  have a3 : ∀ i, (!insideR (nthR s.holes i) s.outer true) = true → i < s.holes.length → false = Geo.validSR s := fun i h => n1 i (by unfold holeOk; rw [show Geo.insideAllR (nthR s.holes i) s.outer = false from nb' h]; simp)
  have a4 : ∀ i, (!Geo.validR (nthR s.holes i)) = false → Geo.meetsR (nthR s.holes i) s.outer = false → (!insideR (nthR s.holes i) s.outer true) = false → holeOk s i = true := fun i h1 h2 h3 => by
    unfold holeOk; rw [nb h1, h2, show Geo.insideAllR (nthR s.holes i) s.outer = true from nb h3]; rfl
  have b1 : ∀ i k, Geo.meetsR (nthR s.holes i) (nthR s.holes k) = true → k < i → i < s.holes.length → false = Geo.validSR s := fun i k h => n2 i k (by unfold pairHS; rw [h]; rfl)
  have b2 : ∀ i k, insideR (nthR s.holes i) (nthR s.holes k) false = true → k < i → i < s.holes.length → false = Geo.validSR s := fun i k h => n2 i k (by unfold pairHS; rw [show Geo.insideAnyR (nthR s.holes i) (nthR s.holes k) = true from h]; simp)
  have b3 : ∀ i k, insideR (nthR s.holes k) (nthR s.holes i) false = true → k < i → i < s.holes.length → false = Geo.validSR s := fun i k h => n2 i k (by unfold pairHS; rw [show Geo.insideAnyR (nthR s.holes k) (nthR s.holes i) = true from h]; simp)
  have b4 : ∀ i k, Geo.meetsR (nthR s.holes i) (nthR s.holes k) = false → insideR (nthR s.holes i) (nthR s.holes k) false = false → insideR (nthR s.holes k) (nthR s.holes i) false = false → pairHS s i k = true := fun i k h1 h2 h3 => by
    unfold pairHS; rw [h1, show Geo.insideAnyR (nthR s.holes i) (nthR s.holes k) = false from h2, show Geo.insideAnyR (nthR s.holes k) (nthR s.holes i) = false from h3]; rfl
  have b5 : ∀ i k : Nat, ¬ (k : Int) < i → upto (fun k => pairHS s i k = true) k → ∀ k, k < i → pairHS s i k = true := fun i k h1 h2 j hj => h2 j (by omega)
  have e0 := cornUp_zero s
  have es : ∀ k, k < s.holes.length → (cornUp s k : Int) + (nthR s.holes k).length = cornUp s (k + 1) := fun k h => by rw [cornUp_succ h]; rfl
  have el : ∀ k, k < s.holes.length → in64 ((cornUp s k : Int) + (nthR s.holes k).length) := fun k h => by rw [es k h]; exact i64w (by have := cornUp_le hp (k + 1) (by omega); have := hp.2.1; omega)
  have ef : s.holes.length ≤ 6 → Geo.validR s.outer = true → ∀ k : Nat, ¬ (k : Int) < s.holes.length → k ≤ s.holes.length → upto (fun i => holeOk s i = true ∧ ∀ k, k < i → pairHS s i k = true) k → decide ((cornUp s k : Int) ≤ 80) = Geo.validSR s := fun h1 h2 k h3 h4 h5 => by
    obtain rfl : k = s.holes.length := by omega
    rw [cornUp_all, Bool.eq_iff_iff, validSR_iff, decide_eq_true_eq]
    exact ⟨fun h => ⟨h1, h2, h5, by omega⟩, fun h => by have := h.2.2.2; omega⟩
  have ho := hp.1
  have hh := @Fit.hole s hp
  repeat' first | with_reducible apply And.intro | with_reducible intro
  all_goals repeat with_reducible cases ‹_ ∧ _›
  all_goals first | assumption | rfl | exact trivial | exact nb ‹_› | exact nb' ‹_› | omega | exact ix_mod (by omega) | (unfold ix; omega) | (unfold in64; omega) | exact upto_zero _ | exact upto_succ ‹_› ‹_› | (refine upto_succ ‹_› ?_; simp_all; done) | exact Nat.le_trans (hh (by omega)) (by decide) | exact el _ (by omega) | exact es _ (by omega) | exact ef ‹_› ‹_› _ ‹_› ‹_› ‹_› | exact a1 _ ‹_› (by omega) | exact a2 _ ‹_› (by omega) | exact a3 _ ‹_› (by omega) | exact a4 _ ‹_› ‹_› ‹_› | exact b1 _ _ ‹_› (by omega) (by omega) | exact b2 _ _ ‹_› (by omega) (by omega) | exact b3 _ _ ‹_› (by omega) (by omega) | exact upto_succ ‹_› (b4 _ _ ‹_› ‹_› ‹_›) | exact upto_succ ‹_› ⟨‹_›, b5 _ _ ‹_› ‹_›⟩ | exact hf fun h => by have h := (validSR_iff s).1 h; first | omega | (simp_all; done) | grind)
def t58 : Tab := tabL [(58, c58)] t129
theorem t58o : t58.Ok Tryz.prog := tabL_ok t129o ⟨k58, trivial⟩
theorem holesR_at {p : Geo.Pt} {l : List Geo.Ring} {w : Int} {k : Nat} (hk : k < l.length) (h : ∀ j, j < k → Geo.whereR (nthR l j) p ≠ 2 ∧ Geo.whereR (nthR l j) p ≠ 1) : Geo.holesR p l w = if Geo.whereR (nthR l k) p = 2 then 0 else if Geo.whereR (nthR l k) p = 1 then 1 else Geo.holesR p (l.drop (k + 1)) w := by
  induction l generalizing k with
  | nil => simp at hk
  | cons r l ih =>
    cases k with
    | zero => rfl
    | succ k =>
      have h0 := h 0 (by omega)
      have e : nthR (r :: l) 0 = r := rfl
      rw [e] at h0
      have e1 : Geo.holesR p (r :: l) w = (if Geo.whereR r p = 2 then 0 else if Geo.whereR r p = 1 then 1 else Geo.holesR p l w) := rfl
      rw [e1, if_neg h0.1, if_neg h0.2]
      exact ih (k := k) (by simpa using hk) (fun j hj => h (j + 1) (by omega))
theorem holesR_end {p : Geo.Pt} {l : List Geo.Ring} {w : Int} (h : ∀ j, j < l.length → Geo.whereR (nthR l j) p ≠ 2 ∧ Geo.whereR (nthR l j) p ≠ 1) : Geo.holesR p l w = w := by
  induction l with
  | nil => rfl
  | cons r l ih =>
    have h0 := h 0 (by simp)
    have e : nthR (r :: l) 0 = r := rfl
    rw [e] at h0
    unfold Geo.holesR
    rw [if_neg h0.1, if_neg h0.2]
    exact ih (fun j hj => h (j + 1) (by simpa using hj))
theorem insH_at {X : List Geo.Ring} {h : Geo.Ring} : ∀ {k : Nat}, k ≤ X.length → (∀ j, j < k → Geo.lessV (nth (nthR X j) 0) (nth h 0) = true) → (k < X.length → Geo.lessV (nth (nthR X k) 0) (nth h 0) = false) → Geo.insH X h = X.take k ++ [h] ++ X.drop k := by
  induction X with
  | nil => intro k hk _ _; simp [Geo.insH]
  | cons q r ih =>
    intro k hk h1 h2
    cases k with
    | zero =>
      unfold Geo.insH
      rw [if_neg (by rw [show Geo.lessV (nth q 0) (nth h 0) = false from h2 (by simp)]; simp)]; rfl
    | succ k =>
      unfold Geo.insH
      rw [if_pos (show Geo.lessV (nth q 0) (nth h 0) = true from h1 0 (by omega)), ih (k := k) (by simpa using hk) (fun j hj => h1 (j + 1) (by omega)) (fun hh => h2 (by simpa using hh))]; rfl
def sortUp (s : Geo.Shape) (i : Nat) : List Geo.Ring := Geo.sortH ((s.holes.take i).map Geo.begin)
theorem sortUp_succ {s : Geo.Shape} {i : Nat} (h : i < s.holes.length) : sortUp s (i + 1) = Geo.insH (sortUp s i) (Geo.begin (nthR s.holes i)) := by
  unfold sortUp Geo.sortH
  rw [List.take_add_one, List.getElem?_eq_getElem h, List.map_append, List.foldl_append, nthR_eq h]; rfl
theorem sortUp_perm (s : Geo.Shape) (i : Nat) : (sortUp s i).Perm ((s.holes.take i).map Geo.begin) := Geo.sortH_perm _
theorem sortUp_length (s : Geo.Shape) (i : Nat) : (sortUp s i).length ≤ s.holes.length := by
  rw [(sortUp_perm s i).length_eq, List.length_map, List.length_take]; exact Nat.min_le_right _ _
theorem sortUp_mem {s : Geo.Shape} {i : Nat} {r : Geo.Ring} (h : r ∈ sortUp s i) : ∃ q ∈ s.holes, r = Geo.begin q := by
  have := (sortUp_perm s i).mem_iff.1 h
  obtain ⟨q, hq, rfl⟩ := List.mem_map.1 this
  exact ⟨q, List.mem_of_mem_take hq, rfl⟩
theorem sortUp_pos {s : Geo.Shape} (hp : ∀ r ∈ s.holes, 0 < r.length) {i j : Nat} (h : j < (sortUp s i).length) : 0 < (nthR (sortUp s i) j).length := by
  obtain ⟨q, hq, e⟩ := sortUp_mem (Geo.nthR_mem h)
  rw [e, Geo.begin_length]; exact hp q hq
def hQ (s : Geo.Shape) (p : Geo.Pt) (j : Nat) : Prop := Geo.whereR (nthR s.holes j) p ≠ 2 ∧ Geo.whereR (nthR s.holes j) p ≠ 1
def c73 : Con := con (ac aSh (a1 aT)) (fun (s, _) => [Fit s]) (fun (s, p) => .int .i64 (Geo.whereSR s p))
theorem k73 : c73.Ok Tryz.prog 73 := con_ok (cx_ok t58o) (raw := noRaw) (fun (s, p) => [cnt 5 6 s.holes.length (upto (hQ s p))]
  ) (fun (_, _) => ⟨_, rfl⟩) fun (s, p) hp => by_vc (q := Fit s ∧ ((!Geo.validSR s) = true → 0 = Geo.whereSR s p) ∧
 ((!Geo.validSR s) = false → s.outer.length ≤ 100000 ∧ (0 = (0 : Int) ∧ (0 : Nat) ≤ s.holes.length ∧ upto (hQ s p) 0) ∧
  (∀ x : Nat, x ≤ s.holes.length ∧ upto (hQ s p) x → ((x : Int) < s.holes.length → ix (x : Int) s.holes.length ∧ (nthR s.holes x).length ≤ 100000 ∧ (Geo.whereR (nthR s.holes x) p = 2 → 0 = Geo.whereSR s p) ∧
    (¬ Geo.whereR (nthR s.holes x) p = 2 → (Geo.whereR (nthR s.holes x) p = 1 → 1 = Geo.whereSR s p) ∧
     (¬ Geo.whereR (nthR s.holes x) p = 1 → in64 ((x : Int) + 1) ∧ (x : Int) + 1 = ((x + 1 : Nat) : Int) ∧ x + 1 ≤ s.holes.length ∧ upto (hQ s p) (x + 1) ∧ s.holes.length - (x + 1) < s.holes.length - x))) ∧
   (¬ (x : Int) < s.holes.length → Geo.whereR s.outer p = Geo.whereSR s p)))) (by kernel_rfl) (by
  change Fit s at hp
  have h0 : (!Geo.validSR s) = true → 0 = Geo.whereSR s p := fun h => by unfold Geo.whereSR; rw [if_pos h]
  have h1 : (!Geo.validSR s) = false → Geo.whereSR s p = Geo.holesR p s.holes (Geo.whereR s.outer p) := fun h => by unfold Geo.whereSR; rw [if_neg (by rw [h]; simp)]
  have c1 : ∀ k, upto (hQ s p) k → Geo.whereR (nthR s.holes k) p = 2 → (!Geo.validSR s) = false → k < s.holes.length → 0 = Geo.whereSR s p := fun k h h2 h3 hk => by rw [h1 h3, holesR_at hk h, if_pos h2]
  have c2 : ∀ k, upto (hQ s p) k → ¬ Geo.whereR (nthR s.holes k) p = 2 → Geo.whereR (nthR s.holes k) p = 1 → (!Geo.validSR s) = false → k < s.holes.length → 1 = Geo.whereSR s p := fun k h h2 h3 h4 hk => by rw [h1 h4, holesR_at hk h, if_neg h2, if_pos h3]
  have c3 : ∀ k : Nat, ¬ (k : Int) < s.holes.length → upto (hQ s p) k → (!Geo.validSR s) = false → Geo.whereR s.outer p = Geo.whereSR s p := fun k hk h h2 => by rw [h1 h2, holesR_end fun j hj => h j (by omega)]
  have ho := hp.1
  have hl := hp.2.1
  have hh := @Fit.hole s hp
  repeat' first | with_reducible apply And.intro | with_reducible intro
  all_goals repeat with_reducible cases ‹_ ∧ _›
  all_goals first | assumption | rfl | exact trivial | exact nb ‹_› | exact nb' ‹_› | omega | exact ix_mod (by omega) | (unfold ix; omega) | (unfold in64; omega) | exact upto_zero _ | exact upto_succ ‹_› ‹_› | (refine upto_succ ‹_› ?_; simp_all; done) | exact Nat.le_trans (hh (by omega)) (by decide) | exact h0 ‹_› | exact c1 _ ‹_› ‹_› ‹_› (by omega) | exact c2 _ ‹_› ‹_› ‹_› ‹_› (by omega) | exact c3 _ ‹_› ‹_› ‹_› | exact upto_succ ‹_› ⟨‹_›, ‹_›⟩ | grind)
def t73 : Tab := tabL [(73, c73)] t58
theorem t73o : t73.Ok Tryz.prog := tabL_ok t58o ⟨k73, trivial⟩
def c147 : Con := con (ac aI (a1 aI)) (fun (a, b) => [-9000000000000000000 ≤ a, a ≤ 9000000000000000000, -9000000000000000000 ≤ b, b ≤ 9000000000000000000]) (fun (a, b) => .int .i64 ((Nat.gcd a.natAbs b.natAbs : Nat) : Int))
theorem k147 : c147.Ok Tryz.prog 147 := con_ok (cx_ok t73o) (raw := noRaw) (fun (a, b) => [jU 3 [(0, .int .i64 (a.natAbs : Int))], jU 5 [(1, .int .i64 (b.natAbs : Int))], (5, .mk (Int × Int) (fun F _ => int2 F 0 1) [] (fun p => [0 ≤ p.1, 0 ≤ p.2, Nat.gcd p.1.natAbs p.2.natAbs = Nat.gcd a.natAbs b.natAbs]) (fun p => [(0, .int .i64 p.1), (1, .int .i64 p.2)]) (fun _ => []) (fun p => p.2.natAbs) (fun _ => []))]
  ) (fun (_, _) => ⟨_, rfl⟩) fun (a, b) hp => by_vc (q := ((a < 0 → in64 (0 - a) ∧ 0 - a = Int.natAbs a) ∧
  (¬ a < 0 → a = Int.natAbs a)) ∧
 (∀ y : Unit, ((b < 0 → in64 (0 - b) ∧ 0 - b = Int.natAbs b) ∧
   (¬ b < 0 → b = Int.natAbs b)) ∧
  (∀ y_1 : Unit, ((Int.natAbs a : Int) = Int.natAbs a ∧ (Int.natAbs b : Int) = Int.natAbs b ∧ 0 ≤ (Int.natAbs a : Int) ∧ 0 ≤ (Int.natAbs b : Int) ∧ Nat.gcd (Int.natAbs (Int.natAbs a : Int)) (Int.natAbs (Int.natAbs b : Int)) = Nat.gcd (Int.natAbs a) (Int.natAbs b)) ∧
   (∀ x : Prod Int Int, 0 ≤ x.1 ∧ 0 ≤ x.2 ∧ Nat.gcd (Int.natAbs x.1) (Int.natAbs x.2) = Nat.gcd (Int.natAbs a) (Int.natAbs b) → (¬ x.2 = 0 → x.2 ≠ 0 ∧ x.2 = x.2 ∧ Int.tmod x.1 x.2 = Int.tmod x.1 x.2 ∧ 0 ≤ x.2 ∧ 0 ≤ Int.tmod x.1 x.2 ∧ Nat.gcd (Int.natAbs x.snd) (Int.natAbs (Int.tmod x.1 x.2)) = Nat.gcd (Int.natAbs a) (Int.natAbs b) ∧ Int.natAbs (Int.tmod x.1 x.2) < Int.natAbs x.2) ∧
    (¬ (¬ x.2 = 0) → x.1 = Nat.gcd (Int.natAbs a) (Int.natAbs b)))))) (by kernel_rfl) (by
  change -9000000000000000000 ≤ a ∧ a ≤ 9000000000000000000 ∧ -9000000000000000000 ≤ b ∧ b ≤ 9000000000000000000 at hp
  have e1 : ∀ x y : Int, 0 ≤ x → 0 ≤ y → Nat.gcd y.natAbs (Int.tmod x y).natAbs = Nat.gcd x.natAbs y.natAbs := fun x y _ _ => by
    rw [Int.natAbs_tmod, Nat.gcd_comm, ← Nat.gcd_rec, Nat.gcd_comm]
  have e2 : ∀ x y : Int, 0 ≤ x → ¬ y = 0 → (Int.tmod x y).natAbs < y.natAbs := fun x y _ h => by
    rw [Int.natAbs_tmod]; exact Nat.mod_lt _ (by omega)
  have e3 : ∀ x y : Int, 0 ≤ x → 0 ≤ Int.tmod x y := fun x y h => Int.tmod_nonneg _ h
  repeat' first | with_reducible apply And.intro | with_reducible intro
  all_goals repeat with_reducible cases ‹_ ∧ _›
  all_goals first | assumption | rfl | exact trivial | exact nb ‹_› | exact nb' ‹_› | omega | exact ix_mod (by omega) | (unfold ix; omega) | (unfold in64; omega) | exact upto_zero _ | exact upto_succ ‹_› ‹_› | (refine upto_succ ‹_› ?_; simp_all; done) | exact e3 _ _ ‹_› | exact e2 _ _ (by assumption) ‹_› | (rw [e1 _ _ (by assumption) (by assumption)]; assumption) | (have h0 := Decidable.of_not_not ‹¬ ¬ _›; simp_all; omega) | grind)
def t147 : Tab := tabL [(147, c147)] t73
theorem t147o : t147.Ok Tryz.prog := tabL_ok t73o ⟨k147, trivial⟩
theorem sumX_succ {l : List Geo.V} {k : Nat} (h : k < l.length) : Geo.sumX (l.take (k + 1)) = Geo.sumX (l.take k) + (nth l k).x := by
  unfold Geo.sumX; rw [List.take_add_one, List.getElem?_eq_getElem h, List.map_append, List.sum_append, nth_eq h]; simp
theorem sumY_succ {l : List Geo.V} {k : Nat} (h : k < l.length) : Geo.sumY (l.take (k + 1)) = Geo.sumY (l.take k) + (nth l k).y := by
  unfold Geo.sumY; rw [List.take_add_one, List.getElem?_eq_getElem h, List.map_append, List.sum_append, nth_eq h]; simp
theorem tdiv_bd {x : Int} {g : Nat} {B : Int} (h : -B ≤ x ∧ x ≤ B) : -B ≤ x.tdiv (g : Int) ∧ x.tdiv (g : Int) ≤ B := by
  have h1 : (x.tdiv (g : Int)).natAbs ≤ x.natAbs := by rw [Int.natAbs_tdiv]; exact Nat.div_le_self _ _
  omega
theorem sums_bd {l : List Geo.V} (hm : ∀ v ∈ l, bd 10000 v) : ∀ k : Nat, k ≤ l.length → (-(10000 * (k : Int)) ≤ Geo.sumX (l.take k) ∧ Geo.sumX (l.take k) ≤ 10000 * (k : Int)) ∧ (-(10000 * (k : Int)) ≤ Geo.sumY (l.take k) ∧ Geo.sumY (l.take k) ≤ 10000 * (k : Int))
  | 0, _ => by simp [Geo.sumX, Geo.sumY]
  | k + 1, h => by
    have := sums_bd hm k (by omega)
    have h2 := hm _ (Geo.nth_mem (show k < l.length by omega))
    rw [sumX_succ (by omega), sumY_succ (by omega)]; unfold bd at h2; omega
def c74 : Con := con (a1 (aL .V)) (fun l => [0 < l.length, l.length ≤ 1000, (∀ v ∈ l, bd 10000 v)]) (fun l => aT.enc (Geo.middleR l))
theorem k74 : c74.Ok Tryz.prog 74 := con_ok (cx_ok t147o) (raw := noRaw) (fun l => [lp 3 4 l.length (fun _ => []) [] (fun _ => []) (fun k => [(4, .box 74 [.int .i64 (Geo.sumX (l.take k)), .int .i64 (Geo.sumY (l.take k)), .int .i64 (l.length : Int)])])]
  ) (fun _ => ⟨_, rfl⟩) fun l hp => by_vc (q := (0 = (0 : Int) ∧ 0 = Geo.sumX (List.take 0 l) ∧ 0 = Geo.sumY (List.take 0 l) ∧ (l.length : Int) = l.length ∧ (0 : Nat) ≤ l.length) ∧
 (∀ x : Nat, x ≤ l.length → ((x : Int) < l.length → ix (x : Int) l.length ∧ in64 (Geo.sumX (List.take x l) + (nth l x).x) ∧ ix (x : Int) l.length ∧ in64 (Geo.sumY (List.take x l) + (nth l x).y) ∧ in64 ((x : Int) + 1) ∧ (x : Int) + 1 = ((x + 1 : Nat) : Int) ∧ Geo.sumX (List.take x l) + (nth l x).x = Geo.sumX (List.take (x + 1) l) ∧ Geo.sumY (List.take x l) + (nth l x).y = Geo.sumY (List.take (x + 1) l) ∧ (l.length : Int) = l.length ∧ x + 1 ≤ l.length ∧ l.length - (x + 1) < l.length - x) ∧
  (¬ (x : Int) < l.length → -9000000000000000000 ≤ Geo.sumX (List.take x l) ∧ Geo.sumX (List.take x l) ≤ 9000000000000000000 ∧ -9000000000000000000 ≤ Geo.sumY (List.take x l) ∧ Geo.sumY (List.take x l) ≤ 9000000000000000000 ∧ -9000000000000000000 ≤ (Nat.gcd (Int.natAbs (Geo.sumX (List.take x l))) (Int.natAbs (Geo.sumY (List.take x l))) : Int) ∧ (Nat.gcd (Int.natAbs (Geo.sumX (List.take x l))) (Int.natAbs (Geo.sumY (List.take x l))) : Int) ≤ 9000000000000000000 ∧ -9000000000000000000 ≤ (l.length : Int) ∧ (l.length : Int) ≤ 9000000000000000000 ∧ (Nat.gcd (Int.natAbs (Nat.gcd (Int.natAbs (Geo.sumX (List.take x l))) (Int.natAbs (Geo.sumY (List.take x l))) : Int)) (Int.natAbs (l.length : Int)) : Int) ≠ 0 ∧ in64 (Int.tdiv (Geo.sumX (List.take x l)) (Nat.gcd (Int.natAbs (Nat.gcd (Int.natAbs (Geo.sumX (List.take x l))) (Int.natAbs (Geo.sumY (List.take x l))) : Int)) (Int.natAbs (l.length : Int)) : Int)) ∧ (Nat.gcd (Int.natAbs (Nat.gcd (Int.natAbs (Geo.sumX (List.take x l))) (Int.natAbs (Geo.sumY (List.take x l))) : Int)) (Int.natAbs (l.length : Int)) : Int) ≠ 0 ∧ in64 (Int.tdiv (Geo.sumY (List.take x l)) (Nat.gcd (Int.natAbs (Nat.gcd (Int.natAbs (Geo.sumX (List.take x l))) (Int.natAbs (Geo.sumY (List.take x l))) : Int)) (Int.natAbs (l.length : Int)) : Int)) ∧ (Nat.gcd (Int.natAbs (Nat.gcd (Int.natAbs (Geo.sumX (List.take x l))) (Int.natAbs (Geo.sumY (List.take x l))) : Int)) (Int.natAbs (l.length : Int)) : Int) ≠ 0 ∧ in64 ((l.length / Nat.gcd (Int.natAbs (Nat.gcd (Int.natAbs (Geo.sumX (List.take x l))) (Int.natAbs (Geo.sumY (List.take x l))) : Int)) (Int.natAbs (l.length : Int)) : Nat) : Int) ∧ Int.tdiv (Geo.sumX (List.take x l)) (Nat.gcd (Int.natAbs (Nat.gcd (Int.natAbs (Geo.sumX (List.take x l))) (Int.natAbs (Geo.sumY (List.take x l))) : Int)) (Int.natAbs (l.length : Int)) : Int) = (Geo.middleR l).x ∧ Int.tdiv (Geo.sumY (List.take x l)) (Nat.gcd (Int.natAbs (Nat.gcd (Int.natAbs (Geo.sumX (List.take x l))) (Int.natAbs (Geo.sumY (List.take x l))) : Int)) (Int.natAbs (l.length : Int)) : Int) = (Geo.middleR l).y ∧ ((l.length / Nat.gcd (Int.natAbs (Nat.gcd (Int.natAbs (Geo.sumX (List.take x l))) (Int.natAbs (Geo.sumY (List.take x l))) : Int)) (Int.natAbs (l.length : Int)) : Nat) : Int) = (Geo.middleR l).den))) (by kernel_rfl) (by
  change 0 < l.length ∧ l.length ≤ 1000 ∧ ((∀ v ∈ l, bd 10000 v)) at hp
  obtain ⟨h0, h1, hm⟩ := hp
  simp only [Int.natAbs_natCast]
  have et : ∀ x : Nat, ¬ (x : Int) < l.length → x ≤ l.length → List.take x l = l := fun x h1 h2 => List.take_of_length_le (by omega)
  have hg : ∀ n m, ((Nat.gcd (Nat.gcd n m) l.length : Nat) : Int) ≠ 0 := fun n m => by have := Nat.gcd_pos_of_pos_right (Nat.gcd n m) h0; omega
  have hs := sums_bd hm
  have hd : ∀ x n m, x ≤ l.length → in64 (Int.tdiv (Geo.sumX (List.take x l)) (Nat.gcd (Nat.gcd n m) l.length : Int)) ∧ in64 (Int.tdiv (Geo.sumY (List.take x l)) (Nat.gcd (Nat.gcd n m) l.length : Int)) := fun x n m h => by
    have := hs x h
    exact ⟨i64w (by have := tdiv_bd (x := Geo.sumX (List.take x l)) (g := Nat.gcd (Nat.gcd n m) l.length) (B := 10000 * x) this.1; omega), i64w (by have := tdiv_bd (x := Geo.sumY (List.take x l)) (g := Nat.gcd (Nat.gcd n m) l.length) (B := 10000 * x) this.2; omega)⟩
  have ha : ∀ x, x < l.length → in64 (Geo.sumX (List.take x l) + (nth l x).x) ∧ in64 (Geo.sumY (List.take x l) + (nth l x).y) := fun x h => by
    rw [← sumX_succ h, ← sumY_succ h]; have := hs (x + 1) (by omega); exact ⟨i64w (by omega), i64w (by omega)⟩
  have hq : ∀ n m, in64 ((l.length / Nat.gcd (Nat.gcd n m) l.length : Nat) : Int) := fun n m => i64w (by have := Nat.div_le_self l.length (Nat.gcd (Nat.gcd n m) l.length); generalize l.length / Nat.gcd (Nat.gcd n m) l.length = q at *; omega)
  have hn : ∀ n m B : Nat, n ≤ B → m ≤ B → Nat.gcd n m ≤ B := fun n m B h1 h2 => by
    rcases Nat.eq_zero_or_pos n with e | e
    · rw [e, Nat.gcd_zero_left]; exact h2
    · exact Nat.le_trans (Nat.gcd_le_left m e) h1
  have hk : ∀ x, x ≤ l.length → ((Nat.gcd (Geo.sumX (List.take x l)).natAbs (Geo.sumY (List.take x l)).natAbs : Nat) : Int) ≤ 9000000000000000000 := fun x h => by
    have := hn (Geo.sumX (List.take x l)).natAbs (Geo.sumY (List.take x l)).natAbs 10000000 (by have := hs x h; omega) (by have := hs x h; omega)
    omega
  repeat' first | with_reducible apply And.intro | with_reducible intro
  all_goals repeat with_reducible cases ‹_ ∧ _›
  all_goals first | assumption | rfl | exact trivial | exact nb ‹_› | exact nb' ‹_› | omega | exact ix_mod (by omega) | (unfold ix; omega) | (unfold in64; omega) | exact upto_zero _ | exact upto_succ ‹_› ‹_› | (refine upto_succ ‹_› ?_; simp_all; done) | exact hk _ ‹_› | exact (ha _ (by omega)).1 | exact (ha _ (by omega)).2 | exact hg _ _ | exact (hd _ _ _ ‹_›).1 | exact (hd _ _ _ ‹_›).2 | exact hq _ _ | exact (sumX_succ (by omega)).symm | exact (sumY_succ (by omega)).symm | (have := hs _ ‹_›; omega) | (rw [et _ ‹_› ‹_›]; rfl) | grind)
def t74 : Tab := tabL [(74, c74)] t147
theorem t74o : t74.Ok Tryz.prog := tabL_ok t147o ⟨k74, trivial⟩
theorem cmpRing_ix : ∀ {a b : Geo.Ring} {k : Nat}, (∀ j, j < k → Geo.cmpV (nth a j) (nth b j) = 0) → Geo.cmpV (nth a k) (nth b k) ≠ 0 → k < a.length → k < b.length → Geo.cmpRing a b = Geo.cmpV (nth a k) (nth b k)
  | [], _, k, _, _, h, _ => by simp at h
  | _ :: _, [], k, _, _, _, h => by simp at h
  | x :: a, y :: b, 0, _, h, _, _ => by
    have e : Geo.cmpV x y ≠ 0 := h
    unfold Geo.cmpRing; rw [if_pos e]; rfl
  | x :: a, y :: b, k + 1, h3, h4, h1, h2 => by
    have e : Geo.cmpV x y = 0 := h3 0 (by omega)
    unfold Geo.cmpRing; rw [if_neg (fun hne => hne e)]
    exact cmpRing_ix (a := a) (b := b) (k := k) (fun j hj => h3 (j + 1) (by omega)) h4 (by simpa using h1) (by simpa using h2)
theorem cmpRing_fin : ∀ {a b : Geo.Ring} {k : Nat}, k ≤ a.length → k ≤ b.length → (k = a.length ∨ k = b.length) → (∀ j, j < k → Geo.cmpV (nth a j) (nth b j) = 0) → Geo.cmpRing a b = Geo.sgn ((a.length : Int) - (b.length : Int))
  | [], [], _, _, _, _, _ => rfl
  | [], y :: b, k, _, _, _, _ => by unfold Geo.cmpRing Geo.sgn; simp only [List.length_cons, List.length_nil]; rw [if_neg (by omega), if_pos (by omega)]
  | x :: a, [], k, _, _, _, _ => by unfold Geo.cmpRing Geo.sgn; simp only [List.length_cons, List.length_nil]; rw [if_pos (by omega)]
  | x :: a, y :: b, 0, _, _, h, _ => by simp at h
  | x :: a, y :: b, k + 1, h1, h2, h3, h4 => by
    have e : Geo.cmpV x y = 0 := h4 0 (by omega)
    unfold Geo.cmpRing; rw [if_neg (fun hne => hne e)]
    rw [cmpRing_fin (a := a) (b := b) (k := k) (by simpa using h1) (by simpa using h2) (by simpa using h3) (fun j hj => h4 (j + 1) (by omega))]
    congr 1; simp only [List.length_cons]; omega
def c27 : Con := con (ac (aL .V) (a1 (aL .V))) (fun (a, b) => [a.length ≤ 1000000, b.length ≤ 1000000]) (fun (a, b) => .int .i64 (Geo.cmpRing a b))
theorem k27 : c27.Ok Tryz.prog 27 := con_ok (cx_ok t74o) (raw := noRaw) (fun (a, b) => [lp 2 5 a.length (fun k => [k ≤ b.length, upto (fun j => Geo.cmpV (nth a j) (nth b j) = 0) k]) [] (fun _ => []) (fun _ => [])]
  ) (fun (_, _) => ⟨_, rfl⟩) fun (a, b) hp => by_vc (q := (0 = (0 : Int) ∧ (0 : Nat) ≤ a.length ∧ (0 : Nat) ≤ b.length ∧ upto (fun j => Geo.cmpV (nth a j) (nth b j) = 0) 0) ∧
 (∀ x : Nat, x ≤ a.length ∧ x ≤ b.length ∧ upto (fun j => Geo.cmpV (nth a j) (nth b j) = 0) x → ((x : Int) < a.length → ((x : Int) < b.length → ix (x : Int) a.length ∧ ix (x : Int) b.length ∧ (¬ Geo.cmpV (nth a x) (nth b x) = 0 → Geo.cmpV (nth a x) (nth b x) = Geo.cmpRing a b) ∧
    (¬ (¬ Geo.cmpV (nth a x) (nth b x) = 0) → in64 ((x : Int) + 1) ∧ (x : Int) + 1 = ((x + 1 : Nat) : Int) ∧ x + 1 ≤ a.length ∧ x + 1 ≤ b.length ∧ upto (fun j => Geo.cmpV (nth a j) (nth b j) = 0) (x + 1) ∧ a.length - (x + 1) < a.length - x)) ∧
   (¬ (x : Int) < b.length → in64 ((a.length : Int) - b.length) ∧ Geo.sgn ((a.length : Int) - b.length) = Geo.cmpRing a b)) ∧
  (¬ (x : Int) < a.length → in64 ((a.length : Int) - b.length) ∧ Geo.sgn ((a.length : Int) - b.length) = Geo.cmpRing a b))) (by kernel_rfl) (by
  change a.length ≤ 1000000 ∧ b.length ≤ 1000000 at hp
  repeat' first | with_reducible apply And.intro | with_reducible intro
  all_goals repeat with_reducible cases ‹_ ∧ _›
  all_goals first | assumption | rfl | exact trivial | exact nb ‹_› | exact nb' ‹_› | omega | exact ix_mod (by omega) | (unfold ix; omega) | (unfold in64; omega) | exact upto_zero _ | exact upto_succ ‹_› ‹_› | (refine upto_succ ‹_› ?_; simp_all; done) | exact (cmpRing_ix ‹_› ‹_› (by omega) (by omega)).symm | exact (cmpRing_fin ‹_› ‹_› (by omega) ‹_›).symm | exact upto_succ ‹_› (Decidable.of_not_not ‹¬ ¬ _›) | grind)
def t27 : Tab := tabL [(27, c27)] t74
theorem t27o : t27.Ok Tryz.prog := tabL_ok t74o ⟨k27, trivial⟩
theorem validSR_pos {s : Geo.Shape} (hv : Geo.validSR s = true) : 0 < s.outer.length ∧ ∀ r ∈ s.holes, 0 < r.length := by
  have h := (validSR_iff s).1 hv
  refine ⟨by have := ((validR_iff s.outer).1 h.2.1).1; omega, fun r hr => ?_⟩
  obtain ⟨i, hi, rfl⟩ := Geo.mem_nthR hr
  have h2 := (h.2.2.1 i hi).1
  unfold holeOk at h2
  simp only [BI] at h2
  have := ((validR_iff _).1 h2.1.1).1
  omega
theorem canonS_eq (s : Geo.Shape) : Geo.canonS s = ⟨Geo.begin s.outer, sortUp s s.holes.length⟩ := by unfold Geo.canonS sortUp; rw [List.take_length]
theorem fit_canon {s : Geo.Shape} (hf : Fit s) : Fit (Geo.canonS s) := by
  rw [canonS_eq]
  refine ⟨by dsimp only; rw [Geo.begin_length]; exact hf.1, ?_, fun r hr => ?_⟩
  · have := sortUp_length s s.holes.length; have := hf.2.1; dsimp only; omega
  · obtain ⟨q, hq, rfl⟩ := sortUp_mem hr
    rw [Geo.begin_length]; exact hf.2.2 q hq
theorem flatR_succ {L : List Geo.Ring} {k : Nat} (hk : k < L.length) : (L.take (k + 1)).flatten = (L.take k).flatten ++ nthR L k := by
  rw [List.take_add_one, List.flatten_append, List.getElem?_eq_getElem hk, nthR_eq hk]; simp
theorem flatR_le {L : List Geo.Ring} (h : ∀ r ∈ L, r.length ≤ 1000) (k : Nat) (hk : k ≤ L.length) : ((L.take k).flatten).length ≤ 1000 * k := by
  induction k with
  | zero => simp
  | succ k ih =>
    rw [flatR_succ (by omega), List.length_append]
    have h1 := ih (by omega)
    have h3 := h _ (Geo.nthR_mem (show k < L.length by omega))
    omega
def qSU (s : Geo.Shape) (i j : Nat) : Prop := Geo.lessV (nth (nthR (sortUp s i) j) 0) (nth (Geo.begin (nthR s.holes i)) 0) = true
def jSU (s : Geo.Shape) (i j : Nat) : List Geo.Ring := (sortUp s i).take j ++ [Geo.begin (nthR s.holes i)] ++ (sortUp s i).drop j
theorem jSU_eq {s : Geo.Shape} {i j : Nat} (h : sortUp s (i + 1) = jSU s i j) : ([] : List (List Geo.V)) ++ List.take j (List.drop 0 (sortUp s i)) ++ [Geo.begin (nthR s.holes i)] ++ List.take ((sortUp s i).length - j) (List.drop j (sortUp s i)) = sortUp s (i + 1) := by
  have e : List.take ((sortUp s i).length - j) (List.drop j (sortUp s i)) = List.drop j (sortUp s i) := List.take_of_length_le (by simp)
  rw [h, e]; unfold jSU; simp
def c130 : Con := con (a1 aSh) (fun s => [Fit s, 0 < s.outer.length, (∀ r ∈ s.holes, 0 < r.length)]) (fun s => .agg [.lst .V (Geo.begin s.outer), .lst .R (sortUp s s.holes.length)])
theorem k130 : c130.Ok Tryz.prog 130 := con_ok (cx_ok t27o) (raw := noRaw) (fun s => [lp 3 4 s.holes.length (fun _ => []) [900] (fun _ => []) (fun k => [(6, .box 26 [.lst .V (Geo.begin s.outer), .own 900 .R (sortUp s k).length]), (900, .row 23 .R (sortUp s k))]) fun i => [cnt 7 6 (sortUp s i).length (upto (qSU s i)), jN 9 6 fun j => [j ≤ (sortUp s i).length, sortUp s (i + 1) = jSU s i j]]]
  ) (fun _ => ⟨_, rfl⟩) fun s hp => by_vc (q := s.outer.length ≤ 100000 ∧ (0 = (0 : Int) ∧ Geo.begin s.outer = Geo.begin s.outer ∧ (sortUp s 0).length = 0 ∧ sortUp s 0 = ([] : List (List Geo.V)) ∧ (0 : Nat) ≤ s.holes.length) ∧
 (∀ x : Nat, x ≤ s.holes.length → ((x : Int) < s.holes.length → ix (x : Int) s.holes.length ∧ (nthR s.holes x).length ≤ 100000 ∧ ((0 = (0 : Int) ∧ (0 : Nat) ≤ (sortUp s x).length ∧ upto (qSU s x) 0) ∧
    (∀ x_1 : Nat, x_1 ≤ (sortUp s x).length ∧ upto (qSU s x) x_1 → ((x_1 : Int) < (sortUp s x).length → ix (x_1 : Int) (sortUp s x).length ∧ x_1 < (sortUp s x).length ∧ ix 0 (nthR (sortUp s x) x_1).length ∧ ix 0 (Geo.begin (nthR s.holes x)).length ∧ (Geo.lessV (nth (nthR (sortUp s x) x_1) 0) (nth (Geo.begin (nthR s.holes x)) 0) = true → in64 ((x_1 : Int) + 1) ∧ (x_1 : Int) + 1 = ((x_1 + 1 : Nat) : Int) ∧ x_1 + 1 ≤ (sortUp s x).length ∧ upto (qSU s x) (x_1 + 1) ∧ (sortUp s x).length - (x_1 + 1) < (sortUp s x).length - x_1) ∧
      (Geo.lessV (nth (nthR (sortUp s x) x_1) 0) (nth (Geo.begin (nthR s.holes x)) 0) = false → (x_1 : Int) = x_1 ∧ x_1 ≤ (sortUp s x).length ∧ sortUp s (x + 1) = jSU s x x_1)) ∧
     (¬ (x_1 : Int) < (sortUp s x).length → (x_1 : Int) = x_1 ∧ x_1 ≤ (sortUp s x).length ∧ sortUp s (x + 1) = jSU s x x_1))) ∧
   (∀ y : Nat, y ≤ (sortUp s x).length ∧ sortUp s (x + 1) = jSU s x y → (0 ≤ (y : Int) ∧ (y : Int) ≤ (sortUp s x).length) ∧ 0 + y ≤ (sortUp s x).length ∧ ([] : List (List Geo.V)).length + (List.take y (List.drop 0 (sortUp s x))).length ≤ 1000000 ∧ (([] : List (List Geo.V)) ++ List.take y (List.drop 0 (sortUp s x))).length = (([] : List (List Geo.V)) ++ List.take y (List.drop 0 (sortUp s x))).length ∧ (([] : List (List Geo.V)) ++ List.take y (List.drop 0 (sortUp s x))).length + [Geo.begin (nthR s.holes x)].length ≤ 1000000 ∧ (0 ≤ (y : Int) ∧ (y : Int) ≤ (sortUp s x).length) ∧ (([] : List (List Geo.V)) ++ List.take y (List.drop 0 (sortUp s x)) ++ [Geo.begin (nthR s.holes x)]).length = (([] : List (List Geo.V)) ++ List.take y (List.drop 0 (sortUp s x)) ++ [Geo.begin (nthR s.holes x)]).length ∧ y + ((sortUp s x).length - y) ≤ (sortUp s x).length ∧ (([] : List (List Geo.V)) ++ List.take y (List.drop 0 (sortUp s x)) ++ [Geo.begin (nthR s.holes x)]).length + (List.take ((sortUp s x).length - y) (List.drop y (sortUp s x))).length ≤ 1000000 ∧ in64 ((x : Int) + 1) ∧ (x : Int) + 1 = ((x + 1 : Nat) : Int) ∧ Geo.begin s.outer = Geo.begin s.outer ∧ (([] : List (List Geo.V)) ++ List.take y (List.drop 0 (sortUp s x)) ++ [Geo.begin (nthR s.holes x)] ++ List.take ((sortUp s x).length - y) (List.drop y (sortUp s x))).length = (sortUp s (x + 1)).length ∧ ([] : List (List Geo.V)) ++ List.take y (List.drop 0 (sortUp s x)) ++ [Geo.begin (nthR s.holes x)] ++ List.take ((sortUp s x).length - y) (List.drop y (sortUp s x)) = sortUp s (x + 1) ∧ x + 1 ≤ s.holes.length ∧ s.holes.length - (x + 1) < s.holes.length - x)) ∧
  (¬ (x : Int) < s.holes.length → (sortUp s x).length = (sortUp s x).length ∧ Geo.begin s.outer = Geo.begin s.outer ∧ sortUp s x = sortUp s s.holes.length))) (by kernel_rfl) (by
  change Fit s ∧ 0 < s.outer.length ∧ ((∀ r ∈ s.holes, 0 < r.length)) at hp
  obtain ⟨hf, hpo, hph⟩ := hp
  have h1 := hf.1
  have h2 := hf.2.1
  have hh := @Fit.hole s hf
  have i0 : sortUp s 0 = [] := rfl
  have hl := sortUp_length s
  have kf : ∀ k : Nat, ¬ (k : Int) < s.holes.length → k ≤ s.holes.length → sortUp s k = sortUp s s.holes.length := fun k h1 h2 => by rw [show k = s.holes.length by omega]
  have kl : ∀ i j : Nat, (j : Int) < (sortUp s i).length → in64 ((j : Int) + 1) := fun i j h => i64w (by have := hl i; omega)
  have hb : ∀ i, i < s.holes.length → ix 0 (Geo.begin (nthR s.holes i)).length := fun i h => ix_nat (by rw [Geo.begin_length]; exact hph _ (Geo.nthR_mem h))
  have hq : ∀ i j, j < (sortUp s i).length → ix 0 (nthR (sortUp s i) j).length := fun i j h => ix_nat (sortUp_pos hph h)
  have hj1 : ∀ i j : Nat, ¬ (j : Int) < (sortUp s i).length → j ≤ (sortUp s i).length → upto (qSU s i) j → i < s.holes.length → sortUp s (i + 1) = jSU s i j := fun i j h1 h2 h3 h => by rw [sortUp_succ h]; exact insH_at h2 h3 (fun h => by omega)
  have hj2 : ∀ i j : Nat, Geo.lessV (nth (nthR (sortUp s i) j) 0) (nth (Geo.begin (nthR s.holes i)) 0) = false → j ≤ (sortUp s i).length → upto (qSU s i) j → i < s.holes.length → sortUp s (i + 1) = jSU s i j := fun i j h1 h2 h3 h => by rw [sortUp_succ h]; exact insH_at h2 h3 (fun _ => h1)
  repeat' first | with_reducible apply And.intro | with_reducible intro
  all_goals repeat with_reducible cases ‹_ ∧ _›
  all_goals first | assumption | rfl | exact trivial | exact nb ‹_› | exact nb' ‹_› | omega | exact ix_mod (by omega) | (unfold ix; omega) | (unfold in64; omega) | exact upto_zero _ | exact upto_succ ‹_› ‹_› | (refine upto_succ ‹_› ?_; simp_all; done) | exact kf _ ‹_› ‹_› | exact kl _ _ ‹_› | exact Nat.le_trans (hh (by omega)) (by decide) | exact hb _ (by omega) | exact hq _ _ (by omega) | exact hj1 _ _ ‹_› ‹_› ‹_› (by omega) | exact hj2 _ _ ‹_› ‹_› ‹_› (by omega) | exact jSU_eq ‹_› | exact congrArg List.length (jSU_eq ‹_›) | (simp; omega) | grind)
def t130 : Tab := tabL [(130, c130)] t27
theorem t130o : t130.Ok Tryz.prog := tabL_ok t27o ⟨k130, trivial⟩
def c59 : Con := con (a1 aSh) (fun s => [Fit s, Geo.validSR s = true]) (fun s => aSh.enc (Geo.canonS s)
  )
theorem k59 : c59.Ok Tryz.prog 59 := con_ok (cx_ok t130o) (raw := noRaw) (fun _ => []) (fun _ => ⟨_, rfl⟩) fun s hp => by_vc (q := Fit s ∧ ((!Geo.validSR s) = true → (Geo.canonS s).outer = ([] : List Geo.V) ∧ (Geo.canonS s).holes = ([] : List (List Geo.V))) ∧
 ((!Geo.validSR s) = false → Fit s ∧ (0 : Nat) < s.outer.length ∧ (∀ r : Geo.Ring, r ∈ s.holes → (0 : Nat) < r.length) ∧ Geo.begin s.outer = (Geo.canonS s).outer ∧ sortUp s s.holes.length = (Geo.canonS s).holes)) (by kernel_rfl) (by
  change Fit s ∧ Geo.validSR s = true at hp
  have h := validSR_pos hp.2
  have e := canonS_eq s
  refine ⟨hp.1, fun hh => ?_, fun _ => ⟨hp.1, h.1, h.2, by rw [e], by rw [e]⟩⟩
  rw [hp.2] at hh; cases hh)
def t59 : Tab := tabL [(59, c59)] t130
theorem t59o : t59.Ok Tryz.prog := tabL_ok t130o ⟨k59, trivial⟩
def vOf (s : Geo.Shape) : List Geo.V := if Geo.validSR s = true then Geo.vertsS (Geo.canonS s) else []
def eOf (s : Geo.Shape) : Int := if Geo.validSR s = true then 0 else 11
def vU (s : Geo.Shape) (k : Nat) : List Geo.V := ((Geo.ringsS (Geo.canonS s)).take (k + 1)).flatten
theorem vU_succ {s : Geo.Shape} {k : Nat} (h : k < (Geo.canonS s).holes.length) : vU s k ++ nthR (Geo.canonS s).holes k = vU s (k + 1) := by
  unfold vU
  rw [flatR_succ (L := Geo.ringsS (Geo.canonS s)) (k := k + 1) (by simp [Geo.ringsS]; omega)]; rfl
def c18 : Con := con (a1 aSh) (fun s => [Fit s]) (fun s => .tup [.lst .V (vOf s), .int .i64 (eOf s)])
theorem k18 : c18.Ok Tryz.prog 18 := con_ok (cx_ok t59o) (raw := noRaw) (fun s => [lp 6 6 (Geo.canonS s).holes.length (fun _ => []) [13] (fun k => [(5, .own 13 .V (vU s k).length)]) (fun k => [(13, .row 44 .V (vU s k))])]
  ) (fun _ => ⟨_, rfl⟩) fun s hp => by_vc (q := Fit s ∧ ((!Geo.validSR s) = true → vOf s = ([] : List Geo.V) ∧ 11 = eOf s) ∧
 ((!Geo.validSR s) = false → Fit s ∧ Geo.validSR s = true ∧ ([] : List Geo.V).length + (Geo.canonS s).outer.length ≤ 1000000 ∧ (0 = (0 : Int) ∧ (([] : List Geo.V) ++ (Geo.canonS s).outer).length = (vU s 0).length ∧ ([] : List Geo.V) ++ (Geo.canonS s).outer = vU s 0 ∧ (0 : Nat) ≤ (Geo.canonS s).holes.length) ∧
  (∀ x : Nat, x ≤ (Geo.canonS s).holes.length → ((x : Int) < (Geo.canonS s).holes.length → ix (x : Int) (Geo.canonS s).holes.length ∧ (vU s x).length = (vU s x).length ∧ (vU s x).length + (nthR (Geo.canonS s).holes x).length ≤ 1000000 ∧ in64 ((x : Int) + 1) ∧ (x : Int) + 1 = ((x + 1 : Nat) : Int) ∧ (vU s x ++ nthR (Geo.canonS s).holes x).length = (vU s (x + 1)).length ∧ vU s x ++ nthR (Geo.canonS s).holes x = vU s (x + 1) ∧ x + 1 ≤ (Geo.canonS s).holes.length ∧ (Geo.canonS s).holes.length - (x + 1) < (Geo.canonS s).holes.length - x) ∧
   (¬ (x : Int) < (Geo.canonS s).holes.length → (vU s x).length = (vU s x).length ∧ vU s x = vOf s ∧ 0 = eOf s)))) (by kernel_rfl) (by
  change Fit s at hp
  have hc := fit_canon hp
  have h1 := hc.1
  have h2 := hc.2.1
  have e0 : vU s 0 = [] ++ (Geo.canonS s).outer := by simp [vU, Geo.ringsS]
  have el : ∀ k, k < (Geo.canonS s).holes.length → (vU s k).length + (nthR (Geo.canonS s).holes k).length ≤ 1000000 := fun k h => by
    have := flatR_le hc.rings (k + 2) (by simp [Geo.ringsS]; omega)
    rw [← List.length_append, vU_succ h]; exact Nat.le_trans this (by omega)
  have ea : ∀ k : Nat, ¬ (k : Int) < (Geo.canonS s).holes.length → k ≤ (Geo.canonS s).holes.length → (!Geo.validSR s) = false → vU s k = vOf s := fun k h1 h2 h3 => by
    obtain rfl : k = (Geo.canonS s).holes.length := by omega
    unfold vOf; rw [nb h3, if_pos rfl]
    unfold vU Geo.vertsS; rw [List.take_of_length_le (by simp [Geo.ringsS])]
  have hv0 : (!Geo.validSR s) = true → vOf s = [] ∧ eOf s = 11 := fun h => by unfold vOf eOf; rw [nb' h]; exact ⟨rfl, rfl⟩
  have hv1 : (!Geo.validSR s) = false → eOf s = 0 := fun h => by unfold eOf; rw [nb h]; rfl
  repeat' first | with_reducible apply And.intro | with_reducible intro
  all_goals repeat with_reducible cases ‹_ ∧ _›
  all_goals first | assumption | rfl | exact trivial | exact nb ‹_› | exact nb' ‹_› | omega | exact ix_mod (by omega) | (unfold ix; omega) | (unfold in64; omega) | exact upto_zero _ | exact upto_succ ‹_› ‹_› | (refine upto_succ ‹_› ?_; simp_all; done) | exact vU_succ (by omega) | exact congrArg List.length (vU_succ (by omega)) | exact el _ (by omega) | exact ea _ ‹_› ‹_› ‹_› | exact (hv0 ‹_›).1.symm | exact (hv0 ‹_›).1 | exact (hv0 ‹_›).2.symm | exact (hv1 ‹_›).symm | (rw [e0]; done) | (simp; omega) | grind)
def t18 : Tab := tabL [(18, c18)] t59
theorem t18o : t18.Ok Tryz.prog := tabL_ok t59o ⟨k18, trivial⟩
end
end Go.Proofs.YtdaeofhdgabhjaaGreat
namespace Go.Proofs.YtdaeofhdgabhjaaGreat
open Go.RowKit
set_option maxRecDepth 100000
noncomputable section
open Geo (edgesS nth nthR)
theorem edgeOK_bad {d e : Geo.S} (h : Geo.meetR d e = 2 ∨ Geo.meetR d e = 3) : Geo.edgeOK d e = false := by unfold Geo.edgeOK; rw [if_pos h]
theorem edgeOK_touch {d e : Geo.S} (h : Geo.meetR d e = 1) : Geo.edgeOK d e = (nth (Geo.commonR d e) 0 == d.a || nth (Geo.commonR d e) 0 == d.b) := by unfold Geo.edgeOK; rw [if_neg (by omega), if_pos h]
theorem edgeOK_free {d e : Geo.S} (h2 : Geo.meetR d e ≠ 2) (h3 : Geo.meetR d e ≠ 3) (h1 : Geo.meetR d e ≠ 1) : Geo.edgeOK d e = true := by unfold Geo.edgeOK; rw [if_neg (by omega), if_neg h1]
theorem touch_within {d e : Geo.S} (h : Geo.meetR d e = 1) : Geo.within (nth (Geo.commonR d e) 0) 4000 = true := by
  obtain ⟨⟨hd, he⟩, z, hz, _, _, hc⟩ := Geo.touch_one (by rw [Geo.meet_eq]; exact h)
  rw [hc]
  show Geo.within z 4000 = true
  unfold Geo.validS at hd he
  simp only [Bool.and_eq_true] at hd he
  rcases (Geo.mem_ends d e z).1 hz with rfl | rfl | rfl | rfl
  · exact hd.1
  · exact hd.2
  · exact he.1
  · exact he.2
theorem all_at_S {l : List Geo.S} {q : Geo.S → Bool} {j : Nat} (hj : j < l.length) (h : q (nthS l j) = false) : l.all q = false := List.all_eq_false.2 ⟨_, nthS_mem hj, by rw [h]; simp⟩
theorem all_upto_S {l : List Geo.S} {q : Geo.S → Bool} (h : ∀ j, j < l.length → q (nthS l j) = true) : l.all q = true := by
  rw [List.all_eq_true]; intro x hx
  obtain ⟨j, hj, rfl⟩ := List.getElem_of_mem hx
  rw [← nthS_eq hj, h j hj]
theorem any_at_S {l : List Geo.S} {q : Geo.S → Bool} {j : Nat} (hj : j < l.length) (h : q (nthS l j) = true) : l.any q = true := List.any_eq_true.2 ⟨_, nthS_mem hj, h⟩
theorem any_upto_S {l : List Geo.S} {q : Geo.S → Bool} (h : ∀ j, j < l.length → q (nthS l j) = false) : l.any q = false := by
  rw [List.any_eq_false]; intro x hx
  obtain ⟨j, hj, rfl⟩ := List.getElem_of_mem hx
  rw [← nthS_eq hj, h j hj]; simp
theorem edgesS_le {s : Geo.Shape} (hf : Fit s) : (edgesS s).length ≤ 901000 := by
  have h := eS_len hf _ (Nat.le_refl _)
  unfold eS at h; rw [List.take_length] at h
  have h2 := hf.rlen
  have h3 : edgesS s = List.flatMap Geo.edges (Geo.ringsS s) := rfl
  rw [h3]; omega
def c31 : Con := con (ac aSh (ac aV (a1 aV))) (fun (s, a, b) => [Fit s, bd 10000 a, bd 10000 b]) (fun (s, a, b) => .bool (Geo.chordR s ⟨a, b⟩))
theorem k31 : c31.Ok Tryz.prog 31 := con_ok (cx_ok t18o) (raw := noRaw) (fun (s, a, b) => [cnt 4 9 (edgesS s).length (upto fun j => Geo.edgeOK ⟨a, b⟩ (nthS (edgesS s) j) = true) fun k => [jP 5 [Geo.edgeOK ⟨a, b⟩ (nthS (edgesS s) k) = true]]]) (fun (_, _, _) => ⟨_, rfl⟩) fun (s, a, b) hp => by_vc (q := Fit s ∧ (0 = (0 : Int) ∧ (0 : Nat) ≤ (edgesS s).length ∧ upto (fun j => Geo.edgeOK (⟨a, b⟩ : Geo.S) (nthS (edgesS s) j) = true) 0) ∧
 (∀ x : Nat, x ≤ (edgesS s).length ∧ upto (fun j => Geo.edgeOK (⟨a, b⟩ : Geo.S) (nthS (edgesS s) j) = true) x → ((x : Int) < (edgesS s).length → (ix (x : Int) (edgesS s).length ∧ (Geo.meetR (⟨a, b⟩ : Geo.S) (nthS (edgesS s) x) = 2 → (Geo.meetR (⟨a, b⟩ : Geo.S) (nthS (edgesS s) x) = 2 → false = Geo.chordR s (⟨a, b⟩ : Geo.S)) ∧
     (¬ Geo.meetR (⟨a, b⟩ : Geo.S) (nthS (edgesS s) x) = 2 → (Geo.meetR (⟨a, b⟩ : Geo.S) (nthS (edgesS s) x) = 1 → ix (x : Int) (edgesS s).length ∧ Geo.meetR (⟨a, b⟩ : Geo.S) (nthS (edgesS s) x) = 1 ∧ Geo.validPt (Geo.ptOf (nth (Geo.commonR (⟨a, b⟩ : Geo.S) (nthS (edgesS s) x)) 0)) = true ∧ (Geo.ptOf (nth (Geo.commonR (⟨a, b⟩ : Geo.S) (nthS (edgesS s) x)) 0)).den = 1 ∧ ((!true) = true → false = Geo.chordR s (⟨a, b⟩ : Geo.S)) ∧
       ((!true) = false → (¬ (nth (Geo.commonR (⟨a, b⟩ : Geo.S) (nthS (edgesS s) x)) 0) = a → (¬ (nth (Geo.commonR (⟨a, b⟩ : Geo.S) (nthS (edgesS s) x)) 0) = b → false = Geo.chordR s (⟨a, b⟩ : Geo.S)) ∧
         (¬ (¬ (nth (Geo.commonR (⟨a, b⟩ : Geo.S) (nthS (edgesS s) x)) 0) = b) → Geo.edgeOK (⟨a, b⟩ : Geo.S) (nthS (edgesS s) x) = true)) ∧
        (¬ (¬ (nth (Geo.commonR (⟨a, b⟩ : Geo.S) (nthS (edgesS s) x)) 0) = a) → Geo.edgeOK (⟨a, b⟩ : Geo.S) (nthS (edgesS s) x) = true))) ∧
      (¬ Geo.meetR (⟨a, b⟩ : Geo.S) (nthS (edgesS s) x) = 1 → Geo.edgeOK (⟨a, b⟩ : Geo.S) (nthS (edgesS s) x) = true))) ∧
    (¬ Geo.meetR (⟨a, b⟩ : Geo.S) (nthS (edgesS s) x) = 2 → (Geo.meetR (⟨a, b⟩ : Geo.S) (nthS (edgesS s) x) = 3 → false = Geo.chordR s (⟨a, b⟩ : Geo.S)) ∧
     (¬ Geo.meetR (⟨a, b⟩ : Geo.S) (nthS (edgesS s) x) = 3 → (Geo.meetR (⟨a, b⟩ : Geo.S) (nthS (edgesS s) x) = 1 → ix (x : Int) (edgesS s).length ∧ Geo.meetR (⟨a, b⟩ : Geo.S) (nthS (edgesS s) x) = 1 ∧ Geo.validPt (Geo.ptOf (nth (Geo.commonR (⟨a, b⟩ : Geo.S) (nthS (edgesS s) x)) 0)) = true ∧ (Geo.ptOf (nth (Geo.commonR (⟨a, b⟩ : Geo.S) (nthS (edgesS s) x)) 0)).den = 1 ∧ ((!true) = true → false = Geo.chordR s (⟨a, b⟩ : Geo.S)) ∧
       ((!true) = false → (¬ (nth (Geo.commonR (⟨a, b⟩ : Geo.S) (nthS (edgesS s) x)) 0) = a → (¬ (nth (Geo.commonR (⟨a, b⟩ : Geo.S) (nthS (edgesS s) x)) 0) = b → false = Geo.chordR s (⟨a, b⟩ : Geo.S)) ∧
         (¬ (¬ (nth (Geo.commonR (⟨a, b⟩ : Geo.S) (nthS (edgesS s) x)) 0) = b) → Geo.edgeOK (⟨a, b⟩ : Geo.S) (nthS (edgesS s) x) = true)) ∧
        (¬ (¬ (nth (Geo.commonR (⟨a, b⟩ : Geo.S) (nthS (edgesS s) x)) 0) = a) → Geo.edgeOK (⟨a, b⟩ : Geo.S) (nthS (edgesS s) x) = true))) ∧
      (¬ Geo.meetR (⟨a, b⟩ : Geo.S) (nthS (edgesS s) x) = 1 → Geo.edgeOK (⟨a, b⟩ : Geo.S) (nthS (edgesS s) x) = true)))) ∧
   (∀ y : Unit, Geo.edgeOK (⟨a, b⟩ : Geo.S) (nthS (edgesS s) x) = true → in64 ((x : Int) + 1) ∧ (x : Int) + 1 = ((x + 1 : Nat) : Int) ∧ x + 1 ≤ (edgesS s).length ∧ upto (fun j => Geo.edgeOK (⟨a, b⟩ : Geo.S) (nthS (edgesS s) j) = true) (x + 1) ∧ (edgesS s).length - (x + 1) < (edgesS s).length - x)) ∧
  (¬ (x : Int) < (edgesS s).length → (¬ a = b → (0 : Nat) < [a, b].length ∧ [a, b].length ≤ 1000 ∧ (∀ v : Geo.V, v ∈ [a, b] → bd 10000 v) ∧ Fit s ∧ decide (Geo.whereSR s (Geo.middleR [a, b]) = 2) = Geo.chordR s (⟨a, b⟩ : Geo.S)) ∧
   (¬ (¬ a = b) → false = Geo.chordR s (⟨a, b⟩ : Geo.S))))) (by kernel_rfl) (by
  change Fit s ∧ bd 10000 a ∧ bd 10000 b at hp
  obtain ⟨hf, ha, hb⟩ := hp
  have hm : ∀ v ∈ [a, b], bd 10000 v := fun v hv => by simp only [List.mem_cons, List.not_mem_nil, or_false] at hv; rcases hv with rfl | rfl; exact ha; exact hb
  have hel := edgesS_le hf
  have hE : Geo.chordR s ⟨a, b⟩ = ((edgesS s).all (fun e => Geo.edgeOK ⟨a, b⟩ e) && (a != b && Geo.whereSR s (Geo.middleR [a, b]) == 2)) := rfl
  have hX : ∀ x : Nat, Geo.edgeOK ⟨a, b⟩ (nthS (edgesS s) x) = false → x < (edgesS s).length → false = Geo.chordR s ⟨a, b⟩ := fun x h hx => by rw [hE, all_at_S hx h, Bool.false_and]
  have hY : ∀ x : Nat, upto (fun j => Geo.edgeOK ⟨a, b⟩ (nthS (edgesS s) j) = true) x → ¬ (x : Int) < (edgesS s).length → Geo.chordR s ⟨a, b⟩ = (a != b && Geo.whereSR s (Geo.middleR [a, b]) == 2) := fun x h hx => by rw [hE, all_upto_S (fun j hj => h j (by omega)), Bool.true_and]
  have hZ : ∀ x, Geo.meetR ⟨a, b⟩ (nthS (edgesS s) x) = 1 → ¬ nth (Geo.commonR ⟨a, b⟩ (nthS (edgesS s) x)) 0 = a → ¬ nth (Geo.commonR ⟨a, b⟩ (nthS (edgesS s) x)) 0 = b → Geo.edgeOK ⟨a, b⟩ (nthS (edgesS s) x) = false := fun x h h1 h2 => by rw [edgeOK_touch h]; simp [h1, h2]
  have hZ2 : ∀ x, Geo.meetR ⟨a, b⟩ (nthS (edgesS s) x) = 1 → ¬ (¬ nth (Geo.commonR ⟨a, b⟩ (nthS (edgesS s) x)) 0 = a) → Geo.edgeOK ⟨a, b⟩ (nthS (edgesS s) x) = true := fun x h h1 => by rw [edgeOK_touch h]; simp [Decidable.of_not_not h1]
  have hZ3 : ∀ x, Geo.meetR ⟨a, b⟩ (nthS (edgesS s) x) = 1 → ¬ (¬ nth (Geo.commonR ⟨a, b⟩ (nthS (edgesS s) x)) 0 = b) → Geo.edgeOK ⟨a, b⟩ (nthS (edgesS s) x) = true := fun x h h1 => by rw [edgeOK_touch h]; simp [Decidable.of_not_not h1]
  repeat' first | with_reducible apply And.intro | with_reducible intro
  all_goals repeat with_reducible cases ‹_ ∧ _›
  all_goals first | assumption | rfl | exact trivial | exact nb ‹_› | exact nb' ‹_› | omega | exact ix_mod (by omega) | (unfold ix; omega) | (unfold in64; omega) | exact upto_zero _ | exact upto_succ ‹_› ‹_› | (refine upto_succ ‹_› ?_; simp_all; done) | exact edgeOK_free ‹_› ‹_› ‹_› | exact edgeOK_free (by omega) (by omega) ‹_› | exact hX _ (edgeOK_bad (.inl ‹_›)) (by omega) | exact hX _ (edgeOK_bad (.inr ‹_›)) (by omega) | exact hX _ (hZ _ ‹_› ‹_› ‹_›) (by omega) | exact hZ2 _ ‹_› ‹_› | exact hZ3 _ ‹_› ‹_› | (rw [Geo.validPt_ptOf]; exact touch_within ‹_›) | (rw [hY _ ‹_› ‹_›]; simp_all; done) | exact Bool.noConfusion ‹(!true) = true› | grind)
def t31 : Tab := tabL [(31, c31)] t18
theorem t31o : t31.Ok Tryz.prog := tabL_ok t18o ⟨k31, trivial⟩
def jn (a b : Geo.V) (e : Geo.S) : Bool := (e.a == a && e.b == b) || (e.a == b && e.b == a)
theorem jn_l {a b : Geo.V} {e : Geo.S} (h : ¬ e.a = a) (h2 : e.a = b) : decide (e.b = a) = jn a b e := by
  have h1 : (e.a == a) = false := by simpa using h
  have h3 : (e.a == b) = true := by simpa using h2
  unfold jn; rw [h1, h3]; rfl
theorem jn_m {a b : Geo.V} {e : Geo.S} (h : ¬ e.b = b) (h2 : e.a = b) : decide (e.b = a) = jn a b e := by
  have h1 : (e.b == b) = false := by simpa using h
  have h3 : (e.a == b) = true := by simpa using h2
  unfold jn; rw [h1, h3, Bool.and_false]; rfl
def c69 : Con := con (ac (aL .S) (ac aV (a1 aV))) (fun (l, _, _) => [l.length ≤ 1000000]) (fun (l, a, b) => .bool (Geo.joinedR l a b))
theorem k69 : c69.Ok Tryz.prog 69 := con_ok (cx_ok t31o) (raw := noRaw) (fun (l, a, b) => [cnt 2 7 l.length (upto fun j => jn a b (nthS l j) = false) fun k => [jb 5 47 (jn a b (nthS l k))]]
  ) (fun (_, _, _) => ⟨_, rfl⟩) fun (l, a, b) hp => by_vc (q := (0 = (0 : Int) ∧ (0 : Nat) ≤ l.length ∧ upto (fun j => jn a b (nthS l j) = false) 0) ∧
 (∀ x : Nat, x ≤ l.length ∧ upto (fun j => jn a b (nthS l j) = false) x → ((x : Int) < l.length → (ix (x : Int) l.length ∧ ((nthS l x).a = a → ix (x : Int) l.length ∧ ((nthS l x).b = b → true = jn a b (nthS l x)) ∧
     (¬ (nthS l x).b = b → ix (x : Int) l.length ∧ ((nthS l x).a = b → ix (x : Int) l.length ∧ decide ((nthS l x).b = a) = jn a b (nthS l x)) ∧
      (¬ (nthS l x).a = b → false = jn a b (nthS l x)))) ∧
    (¬ (nthS l x).a = a → ix (x : Int) l.length ∧ ((nthS l x).a = b → ix (x : Int) l.length ∧ decide ((nthS l x).b = a) = jn a b (nthS l x)) ∧
     (¬ (nthS l x).a = b → false = jn a b (nthS l x)))) ∧
   (∀ y : Unit, (jn a b (nthS l x) = true → true = Geo.joinedR l a b) ∧
    (jn a b (nthS l x) = false → in64 ((x : Int) + 1) ∧ (x : Int) + 1 = ((x + 1 : Nat) : Int) ∧ x + 1 ≤ l.length ∧ upto (fun j => jn a b (nthS l j) = false) (x + 1) ∧ l.length - (x + 1) < l.length - x))) ∧
  (¬ (x : Int) < l.length → false = Geo.joinedR l a b))) (by kernel_rfl) (by
  change l.length ≤ 1000000 at hp
  have hE : Geo.joinedR l a b = l.any (jn a b) := rfl
  have h1 : ∀ x : Nat, jn a b (nthS l x) = true → x < l.length → true = Geo.joinedR l a b := fun x h hx => by rw [hE]; exact (any_at_S hx h).symm
  have h2 : ∀ x : Nat, upto (fun j => jn a b (nthS l j) = false) x → ¬ (x : Int) < l.length → false = Geo.joinedR l a b := fun x h hx => by rw [hE]; exact (any_upto_S fun j hj => h j (by omega)).symm
  repeat' first | with_reducible apply And.intro | with_reducible intro
  all_goals repeat with_reducible cases ‹_ ∧ _›
  all_goals first | assumption | rfl | exact trivial | exact nb ‹_› | exact nb' ‹_› | omega | exact ix_mod (by omega) | (unfold ix; omega) | (unfold in64; omega) | exact upto_zero _ | exact upto_succ ‹_› ‹_› | (refine upto_succ ‹_› ?_; simp_all; done) | exact h1 _ ‹_› (by omega) | exact h2 _ ‹_› ‹_› | (unfold jn; simp_all; done) | exact jn_l ‹_› ‹_› | exact jn_m ‹_› ‹_› | grind)
def t69 : Tab := tabL [(69, c69)] t31
theorem t69o : t69.Ok Tryz.prog := tabL_ok t31o ⟨k69, trivial⟩
theorem insR_at {X : List Geo.Ring} {h : Geo.Ring} : ∀ {k : Nat}, k ≤ X.length → (∀ j, j < k → Geo.cmpRing (nthR X j) h < 0) → (k < X.length → ¬ Geo.cmpRing (nthR X k) h < 0) → Geo.insR X h = X.take k ++ [h] ++ X.drop k := by
  induction X with
  | nil => intro k hk _ _; simp [Geo.insR]
  | cons q r ih =>
    intro k hk h1 h2
    cases k with
    | zero =>
      unfold Geo.insR
      rw [if_neg (show ¬ Geo.cmpRing q h < 0 from h2 (by simp))]; rfl
    | succ k =>
      unfold Geo.insR
      rw [if_pos (show Geo.cmpRing q h < 0 from h1 0 (by omega)), ih (k := k) (by simpa using hk) (fun j hj => h1 (j + 1) (by omega)) (fun hh => h2 (by simpa using hh))]; rfl
def c75 : Con := con (ac (aL .R) (a1 (aL .V))) (fun (l, r) => [l.length ≤ 999999, r.length ≤ 100000, (∀ q ∈ l, q.length ≤ 100000)]) (fun (l, r) => .lst .R (Geo.insR l r))
theorem k75 : c75.Ok Tryz.prog 75 := con_ok (cx_ok t69o) (raw := noRaw) (fun (l, r) => [cnt 2 5 l.length (upto fun j => Geo.cmpRing (nthR l j) r < 0), jN 4 5 fun k => [k ≤ l.length, Geo.insR l r = l.take k ++ [r] ++ l.drop k]]
  ) (fun (_, _) => ⟨_, rfl⟩) fun (l, r) hp => by_vc (q := ((0 = (0 : Int) ∧ (0 : Nat) ≤ l.length ∧ upto (fun j => Geo.cmpRing (nthR l j) r < 0) 0) ∧
  (∀ x : Nat, x ≤ l.length ∧ upto (fun j => Geo.cmpRing (nthR l j) r < 0) x → ((x : Int) < l.length → ix (x : Int) l.length ∧ (nthR l x).length ≤ 1000000 ∧ r.length ≤ 1000000 ∧ (Geo.cmpRing (nthR l x) r < 0 → in64 ((x : Int) + 1) ∧ (x : Int) + 1 = ((x + 1 : Nat) : Int) ∧ x + 1 ≤ l.length ∧ upto (fun j => Geo.cmpRing (nthR l j) r < 0) (x + 1) ∧ l.length - (x + 1) < l.length - x) ∧
    (¬ Geo.cmpRing (nthR l x) r < 0 → (x : Int) = x ∧ x ≤ l.length ∧ Geo.insR l r = List.take x l ++ [r] ++ List.drop x l)) ∧
   (¬ (x : Int) < l.length → (x : Int) = x ∧ x ≤ l.length ∧ Geo.insR l r = List.take x l ++ [r] ++ List.drop x l))) ∧
 (∀ y : Nat, y ≤ l.length ∧ Geo.insR l r = List.take y l ++ [r] ++ List.drop y l → (0 ≤ (y : Int) ∧ (y : Int) ≤ l.length) ∧ ([] : List (List Geo.V)).length + (List.take y l).length ≤ 1000000 ∧ (([] : List (List Geo.V)) ++ List.take y l).length = (([] : List (List Geo.V)) ++ List.take y l).length ∧ (([] : List (List Geo.V)) ++ List.take y l).length + [r].length ≤ 1000000 ∧ (0 ≤ (y : Int) ∧ (y : Int) ≤ l.length) ∧ (([] : List (List Geo.V)) ++ List.take y l ++ [r]).length = (([] : List (List Geo.V)) ++ List.take y l ++ [r]).length ∧ (([] : List (List Geo.V)) ++ List.take y l ++ [r]).length + (List.drop y l).length ≤ 1000000 ∧ (([] : List (List Geo.V)) ++ List.take y l ++ [r] ++ List.drop y l).length = (([] : List (List Geo.V)) ++ List.take y l ++ [r] ++ List.drop y l).length ∧ ([] : List (List Geo.V)) ++ List.take y l ++ [r] ++ List.drop y l = Geo.insR l r)) (by kernel_rfl) (by
  change l.length ≤ 999999 ∧ r.length ≤ 100000 ∧ ((∀ q ∈ l, q.length ≤ 100000)) at hp
  obtain ⟨h1, h2, h3⟩ := hp
  have e1 : ∀ x : Nat, upto (fun j => Geo.cmpRing (nthR l j) r < 0) x → ¬ (x : Int) < l.length → x ≤ l.length → Geo.insR l r = l.take x ++ [r] ++ l.drop x := fun x h4 h5 h6 => insR_at h6 h4 (fun h => by omega)
  have e2 : ∀ x : Nat, upto (fun j => Geo.cmpRing (nthR l j) r < 0) x → ¬ Geo.cmpRing (nthR l x) r < 0 → x ≤ l.length → Geo.insR l r = l.take x ++ [r] ++ l.drop x := fun x h4 h5 h6 => insR_at h6 h4 (fun _ => h5)
  have e3 : ∀ x, x < l.length → (nthR l x).length ≤ 1000000 := fun x h => Nat.le_trans (h3 _ (Geo.nthR_mem h)) (by decide)
  repeat' first | with_reducible apply And.intro | with_reducible intro
  all_goals repeat with_reducible cases ‹_ ∧ _›
  all_goals first | assumption | rfl | exact trivial | exact nb ‹_› | exact nb' ‹_› | omega | exact ix_mod (by omega) | (unfold ix; omega) | (unfold in64; omega) | exact upto_zero _ | exact upto_succ ‹_› ‹_› | (refine upto_succ ‹_› ?_; simp_all; done) | exact e3 _ (by omega) | exact e1 _ ‹_› ‹_› ‹_› | exact e2 _ ‹_› ‹_› ‹_› | (simp; omega) | grind)
def t75 : Tab := tabL [(75, c75)] t69
theorem t75o : t75.Ok Tryz.prog := tabL_ok t69o ⟨k75, trivial⟩
def inWay (r : Geo.Ring) (p : Geo.V) : Bool := p != nth r 0 && p != nth r 1 && p != nth r 2 && Geo.whereVR r p != 0
theorem all_at_V {l : List Geo.V} {q : Geo.V → Bool} {j : Nat} (hj : j < l.length) (h : q (nth l j) = false) : l.all q = false := List.all_eq_false.2 ⟨_, Geo.nth_mem hj, by rw [h]; simp⟩
theorem all_upto_V {l : List Geo.V} {q : Geo.V → Bool} (h : ∀ j, j < l.length → q (nth l j) = true) : l.all q = true := by
  rw [List.all_eq_true]; intro x hx
  obtain ⟨j, hj, rfl⟩ := List.getElem_of_mem hx
  rw [← nth_eq hj, h j hj]
def c72 : Con := con (ac (aL .V) (a1 (aL .V))) (fun (r, v) => [3 ≤ r.length, r.length ≤ 100000, v.length ≤ 100000]) (fun (r, v) => .bool (Geo.emptyR r v))
theorem k72 : c72.Ok Tryz.prog 72 := con_ok (cx_ok t75o) (raw := noRaw) (fun (r, v) => [cnt 2 5 v.length (upto fun j => inWay r (nth v j) = false) fun k => [jb 5 48 (inWay r (nth v k))]]
  ) (fun (_, _) => ⟨_, rfl⟩) fun (r, v) hp => by_vc (q := (0 = (0 : Int) ∧ (0 : Nat) ≤ v.length ∧ upto (fun j => inWay r (nth v j) = false) 0) ∧
 (∀ x : Nat, x ≤ v.length ∧ upto (fun j => inWay r (nth v j) = false) x → ((x : Int) < v.length → (ix (x : Int) v.length ∧ ix 0 r.length ∧ (¬ (nth v x) = (nth r 0) → ix (x : Int) v.length ∧ ix 1 r.length ∧ (¬ (nth v x) = (nth r 1) → ix (x : Int) v.length ∧ ix 2 r.length ∧ (¬ (nth v x) = (nth r 2) → ix (x : Int) v.length ∧ r.length ≤ 100000 ∧ decide (¬ Geo.whereVR r (nth v x) = 0) = inWay r (nth v x)) ∧
      (¬ (¬ (nth v x) = (nth r 2)) → false = inWay r (nth v x))) ∧
     (¬ (¬ (nth v x) = (nth r 1)) → false = inWay r (nth v x))) ∧
    (¬ (¬ (nth v x) = (nth r 0)) → false = inWay r (nth v x))) ∧
   (∀ y : Unit, (inWay r (nth v x) = true → false = Geo.emptyR r v) ∧
    (inWay r (nth v x) = false → in64 ((x : Int) + 1) ∧ (x : Int) + 1 = ((x + 1 : Nat) : Int) ∧ x + 1 ≤ v.length ∧ upto (fun j => inWay r (nth v j) = false) (x + 1) ∧ v.length - (x + 1) < v.length - x))) ∧
  (¬ (x : Int) < v.length → true = Geo.emptyR r v))) (by kernel_rfl) (by
  change 3 ≤ r.length ∧ r.length ≤ 100000 ∧ v.length ≤ 100000 at hp
  have hE : Geo.emptyR r v = v.all fun p => !inWay r p := rfl
  have iw : ∀ {p : Geo.V}, ¬ p = nth r 0 → ¬ p = nth r 1 → ¬ p = nth r 2 → decide (¬ Geo.whereVR r p = 0) = inWay r p := fun h0 h1 h2 => by
    unfold inWay; rw [bne_iff_ne.2 h0, bne_iff_ne.2 h1, bne_iff_ne.2 h2, Bool.eq_iff_iff, decide_eq_true_eq]; simp
  have e1 : ∀ x : Nat, inWay r (nth v x) = true → x < v.length → false = Geo.emptyR r v := fun x h hx => by rw [hE]; exact (all_at_V hx (by rw [h]; rfl)).symm
  have e2 : ∀ x : Nat, upto (fun j => inWay r (nth v j) = false) x → ¬ (x : Int) < v.length → true = Geo.emptyR r v := fun x h hx => by rw [hE]; exact (all_upto_V fun j hj => by rw [h j (by omega)]; rfl).symm
  repeat' first | with_reducible apply And.intro | with_reducible intro
  all_goals repeat with_reducible cases ‹_ ∧ _›
  all_goals first | assumption | rfl | exact trivial | exact nb ‹_› | exact nb' ‹_› | omega | exact ix_mod (by omega) | (unfold ix; omega) | (unfold in64; omega) | exact upto_zero _ | exact upto_succ ‹_› ‹_› | (refine upto_succ ‹_› ?_; simp_all; done) | exact e1 _ ‹_› (by omega) | exact e2 _ ‹_› ‹_› | (unfold inWay; simp_all; done) | exact iw ‹_› ‹_› ‹_› | grind)
def t72 : Tab := tabL [(72, c72)] t75
theorem t72o : t72.Ok Tryz.prog := tabL_ok t75o ⟨k72, trivial⟩
theorem vs_verts {s : Geo.Shape} (h : Geo.VS s) : (Geo.vertsS (Geo.canonS s)).length ≤ 80 := by
  have h1 := (Geo.canon_verts s).length_eq
  have h2 := h.corners
  unfold Geo.cornersS at h2
  rw [h1]
  unfold Geo.vertsS
  rw [List.length_flatten]
  exact h2
theorem vs_near {s : Geo.Shape} (h : Geo.VS s) : ∀ x ∈ Geo.vertsS (Geo.canonS s), Geo.within x 2000 = true := by
  intro x hx
  have hx := (Geo.canon_verts s).subset hx
  unfold Geo.vertsS at hx
  obtain ⟨r, hr, hxr⟩ := List.mem_flatten.1 hx
  have hn := (h.ring hr).near
  unfold Geo.near at hn
  rw [List.all_eq_true] at hn
  exact hn x hxr
theorem vsR {s : Geo.Shape} (hv : Geo.validSR s = true) : Geo.VS s := (Geo.validSP_iff s).1 (by rw [Geo.validS_eq]; exact hv)
def freeUp (c : Bool) (out : List Geo.S) (d : Geo.S) (k : Nat) : Bool := c && (out.take k).all fun e => Geo.meetR e d != 2
theorem freeUp_zero (c : Bool) (out : List Geo.S) (d : Geo.S) : freeUp c out d 0 = c := by simp [freeUp]
theorem freeUp_succ {c : Bool} {out : List Geo.S} {d : Geo.S} {k : Nat} (hk : k < out.length) : freeUp c out d (k + 1) = (freeUp c out d k && Geo.meetR (nthS out k) d != 2) := by
  unfold freeUp
  rw [List.take_add_one, List.getElem?_eq_getElem hk, List.all_append, nthS_eq hk, Bool.and_assoc]; simp
theorem freeUp_full {c : Bool} {out : List Geo.S} {d : Geo.S} {k : Nat} (hk : out.length ≤ k) : freeUp c out d k = (c && out.all fun e => Geo.meetR e d != 2) := by
  unfold freeUp; rw [List.take_of_length_le hk]
theorem freeUp_false {c : Bool} {out : List Geo.S} {d : Geo.S} {k : Nat} (h : freeUp c out d k = false) : (c && out.all fun e => Geo.meetR e d != 2) = false := by
  unfold freeUp at h
  cases c with
  | false => rfl
  | true =>
    rw [Bool.true_and] at h ⊢
    rw [List.all_eq_false] at h ⊢
    obtain ⟨x, hx, h⟩ := h
    exact ⟨x, List.mem_of_mem_take hx, h⟩
theorem rowR_length (s : Geo.Shape) (v : List Geo.V) (acc : List Geo.S) (i : Nat) : ∀ m, (Geo.rowR s v acc i m).length ≤ acc.length + m
  | 0 => by simp [Geo.rowR]
  | m + 1 => by
    have h := rowR_length s v acc i m
    unfold Geo.rowR Geo.stepR
    split
    · rw [List.length_append]; simp; omega
    · omega
theorem diagUp_length (s : Geo.Shape) (v : List Geo.V) : ∀ i, (Geo.diagUp s v i).length ≤ i * v.length
  | 0 => by simp [Geo.diagUp]
  | i + 1 => by
    have h1 := diagUp_length s v i
    have h2 := rowR_length s v (Geo.diagUp s v i) i (v.length - (i + 1))
    unfold Geo.diagUp
    rw [Nat.add_mul]; omega
def dOf (s : Geo.Shape) : List Geo.S := if Geo.validSR s = true then Geo.diagR s (vOf s) else []
def dJ (s : Geo.Shape) (v : List Geo.V) (i j : Nat) : List Geo.S := Geo.rowR s v (Geo.diagUp s v i) i (j - (i + 1))
theorem dJ_zero (s : Geo.Shape) (v : List Geo.V) (i : Nat) : dJ s v i (i + 1) = Geo.diagUp s v i := by unfold dJ; rw [Nat.sub_self]; rfl
theorem dJ_end {s : Geo.Shape} {v : List Geo.V} {i j : Nat} (hj : ¬ (j : Int) < v.length) (h : j ≤ v.length) : dJ s v i j = Geo.diagUp s v (i + 1) := by
  obtain rfl : j = v.length := by omega
  rfl
theorem dJ_len {s : Geo.Shape} {v : List Geo.V} {i j : Nat} (hv : v.length ≤ 80) (hi : i < v.length) (hj : j ≤ v.length) : (dJ s v i j).length ≤ 10000 := by
  have h3 := rowR_length s v (Geo.diagUp s v i) i (j - (i + 1))
  have h4 := diagUp_length s v i
  have h5 : i * v.length ≤ 80 * 80 := Nat.mul_le_mul (by omega) hv
  unfold dJ; omega
def dW (s : Geo.Shape) (v : List Geo.V) (i j : Nat) (k : Nat) : Bool := freeUp (Geo.chordR s ⟨nth v i, nth v j⟩) (dJ s v i j) ⟨nth v i, nth v j⟩ k
theorem dW_zero (s : Geo.Shape) (v : List Geo.V) (i j : Nat) : dW s v i j 0 = Geo.chordR s ⟨nth v i, nth v j⟩ := freeUp_zero _ _ _
theorem dW_succ {s : Geo.Shape} {v : List Geo.V} {i j k : Nat} (h : dW s v i j k = true) (hk : k < (dJ s v i j).length) : decide (¬ Geo.meetR (nthS (dJ s v i j) k) ⟨nth v i, nth v j⟩ = 2) = dW s v i j (k + 1) := by
  have e : dW s v i j (k + 1) = (dW s v i j k && Geo.meetR (nthS (dJ s v i j) k) ⟨nth v i, nth v j⟩ != 2) := freeUp_succ hk
  rw [e, h, Bool.true_and, Bool.eq_iff_iff, decide_eq_true_eq, bne_iff_ne]
theorem dJ_succ {s : Geo.Shape} {v : List Geo.V} {i j : Nat} (hi : i < j) : dJ s v i (j + 1) = Geo.stepR s v (dJ s v i j) i j := by
  unfold dJ
  rw [show j + 1 - (i + 1) = (j - (i + 1)) + 1 by omega]
  show Geo.stepR s v _ i (i + 1 + (j - (i + 1))) = _
  rw [show i + 1 + (j - (i + 1)) = j by omega]
theorem dJ_yes {s : Geo.Shape} {v : List Geo.V} {i j k : Nat} (hb : dW s v i j k = true) (hk : ¬ (k : Int) < (dJ s v i j).length) (hi : i < j) : dJ s v i j ++ [⟨nth v i, nth v j⟩] = dJ s v i (j + 1) := by
  rw [dJ_succ hi]; unfold Geo.stepR; rw [if_pos]
  rw [← freeUp_full (k := k) (by omega)]; exact hb
theorem dJ_no {s : Geo.Shape} {v : List Geo.V} {i j k : Nat} (hb : dW s v i j k = false) (hi : i < j) : dJ s v i j = dJ s v i (j + 1) := by
  rw [dJ_succ hi]; unfold Geo.stepR; rw [if_neg]
  rw [freeUp_false hb]; simp
theorem vOf_le (s : Geo.Shape) : (vOf s).length ≤ 80 := by
  unfold vOf; split
  · exact vs_verts (vsR ‹_›)
  · simp
theorem vOf_bd {s : Geo.Shape} {i : Nat} (h : i < (vOf s).length) {M : Int} (hM : 2000 ≤ M := by decide) : bd M (nth (vOf s) i) := by
  by_cases hv : Geo.validSR s = true
  · have e : vOf s = Geo.vertsS (Geo.canonS s) := if_pos hv
    rw [e] at h ⊢
    exact bd_of (vs_near (vsR hv) _ (Geo.nth_mem h)) hM
  · have e : vOf s = [] := if_neg hv
    rw [e] at h; simp at h
theorem eOf_no {s : Geo.Shape} (h : ¬ eOf s = 0) : dOf s = [] ∧ vOf s = [] := by
  unfold eOf at h
  split at h
  · exact (h rfl).elim
  · exact ⟨if_neg ‹_›, if_neg ‹_›⟩
theorem eOf_yes {s : Geo.Shape} (h : ¬ ¬ eOf s = 0) : Geo.validSR s = true := by
  unfold eOf at h
  split at h
  · assumption
  · exact (h (by decide)).elim
def c20 : Con := conO (a1 aSh) (fun s => [Fit s]) 46 .S (fun s => dOf s) (fun s => [.int .i64 (eOf s)])
set_option maxHeartbeats 1000000 in
theorem k20 : c20.Ok Tryz.prog 20 := con_okO (cx_ok t72o) (raw := noRaw) (fun s => [lp 6 7 (vOf s).length (fun _ => []) [900] (fun k => [(6, .own 900 .S (Geo.diagUp s (vOf s) k).length)]) (fun k => [(900, .row 46 .S (Geo.diagUp s (vOf s) k))]) fun i => [(9, .mk Nat (fun F _ => natAt F 8) [900] (fun j => [i < j, j ≤ (vOf s).length]) (fun j => [(8, .int .i64 (j : Int)), (6, .own 900 .S (dJ s (vOf s) i j).length)]) (fun j => [(900, .row 46 .S (dJ s (vOf s) i j))]) (fun j => (vOf s).length - j) fun j => [lp 14 11 (dJ s (vOf s) i j).length (fun _ => []) [] (fun k => [(10, .bool (dW s (vOf s) i j k))]) (fun _ => [])])]]
  ) (fun _ => ⟨[_], rfl⟩) fun s hp => by_vc (q := Fit s ∧ (¬ eOf s = 0 → dOf s = ([] : List Geo.S) ∧ eOf s = eOf s) ∧
 (¬ (¬ eOf s = 0) → (0 = (0 : Int) ∧ (Geo.diagUp s (vOf s) 0).length = 0 ∧ Geo.diagUp s (vOf s) 0 = ([] : List Geo.S) ∧ (0 : Nat) ≤ (vOf s).length) ∧
  (∀ x : Nat, x ≤ (vOf s).length → ((x : Int) < (vOf s).length → in64 ((x : Int) + 1) ∧ ((x : Int) + 1 = ((x + 1 : Nat) : Int) ∧ (Geo.diagUp s (vOf s) x).length = (dJ s (vOf s) x (x + 1)).length ∧ Geo.diagUp s (vOf s) x = dJ s (vOf s) x (x + 1) ∧ x < x + 1 ∧ x + 1 ≤ (vOf s).length) ∧
    (∀ x_1 : Nat, x < x_1 ∧ x_1 ≤ (vOf s).length → ((x_1 : Int) < (vOf s).length → ix (x : Int) (vOf s).length ∧ ix (x_1 : Int) (vOf s).length ∧ ix (x : Int) (vOf s).length ∧ ix (x_1 : Int) (vOf s).length ∧ Fit s ∧ bd 10000 (nth (vOf s) x) ∧ bd 10000 (nth (vOf s) x_1) ∧ (0 = (0 : Int) ∧ Geo.chordR s (⟨(nth (vOf s) x), (nth (vOf s) x_1)⟩ : Geo.S) = dW s (vOf s) x x_1 0 ∧ (0 : Nat) ≤ (dJ s (vOf s) x x_1).length) ∧
      (∀ x_2 : Nat, x_2 ≤ (dJ s (vOf s) x x_1).length → ((x_2 : Int) < (dJ s (vOf s) x x_1).length → (dW s (vOf s) x x_1 x_2 = true → ix (x_2 : Int) (dJ s (vOf s) x x_1).length ∧ x_2 < (dJ s (vOf s) x x_1).length ∧ in64 ((x_2 : Int) + 1) ∧ (x_2 : Int) + 1 = ((x_2 + 1 : Nat) : Int) ∧ decide (¬ Geo.meetR (nthS (dJ s (vOf s) x x_1) x_2) (⟨(nth (vOf s) x), (nth (vOf s) x_1)⟩ : Geo.S) = 2) = dW s (vOf s) x x_1 (x_2 + 1) ∧ x_2 + 1 ≤ (dJ s (vOf s) x x_1).length ∧ (dJ s (vOf s) x x_1).length - (x_2 + 1) < (dJ s (vOf s) x x_1).length - x_2) ∧
        (dW s (vOf s) x x_1 x_2 = false → (dW s (vOf s) x x_1 x_2 = true → (dJ s (vOf s) x x_1).length = (dJ s (vOf s) x x_1).length ∧ (dJ s (vOf s) x x_1).length + [(⟨(nth (vOf s) x), (nth (vOf s) x_1)⟩ : Geo.S)].length ≤ 1000000 ∧ in64 ((x_1 : Int) + 1) ∧ (x_1 : Int) + 1 = ((x_1 + 1 : Nat) : Int) ∧ (dJ s (vOf s) x x_1 ++ [(⟨(nth (vOf s) x), (nth (vOf s) x_1)⟩ : Geo.S)]).length = (dJ s (vOf s) x (x_1 + 1)).length ∧ dJ s (vOf s) x x_1 ++ [(⟨(nth (vOf s) x), (nth (vOf s) x_1)⟩ : Geo.S)] = dJ s (vOf s) x (x_1 + 1) ∧ x < x_1 + 1 ∧ x_1 + 1 ≤ (vOf s).length ∧ (vOf s).length - (x_1 + 1) < (vOf s).length - x_1) ∧
         (dW s (vOf s) x x_1 x_2 = false → in64 ((x_1 : Int) + 1) ∧ (x_1 : Int) + 1 = ((x_1 + 1 : Nat) : Int) ∧ (dJ s (vOf s) x x_1).length = (dJ s (vOf s) x (x_1 + 1)).length ∧ dJ s (vOf s) x x_1 = dJ s (vOf s) x (x_1 + 1) ∧ x < x_1 + 1 ∧ x_1 + 1 ≤ (vOf s).length ∧ (vOf s).length - (x_1 + 1) < (vOf s).length - x_1))) ∧
       (¬ (x_2 : Int) < (dJ s (vOf s) x x_1).length → (dW s (vOf s) x x_1 x_2 = true → (dJ s (vOf s) x x_1).length = (dJ s (vOf s) x x_1).length ∧ (dJ s (vOf s) x x_1).length + [(⟨(nth (vOf s) x), (nth (vOf s) x_1)⟩ : Geo.S)].length ≤ 1000000 ∧ in64 ((x_1 : Int) + 1) ∧ (x_1 : Int) + 1 = ((x_1 + 1 : Nat) : Int) ∧ (dJ s (vOf s) x x_1 ++ [(⟨(nth (vOf s) x), (nth (vOf s) x_1)⟩ : Geo.S)]).length = (dJ s (vOf s) x (x_1 + 1)).length ∧ dJ s (vOf s) x x_1 ++ [(⟨(nth (vOf s) x), (nth (vOf s) x_1)⟩ : Geo.S)] = dJ s (vOf s) x (x_1 + 1) ∧ x < x_1 + 1 ∧ x_1 + 1 ≤ (vOf s).length ∧ (vOf s).length - (x_1 + 1) < (vOf s).length - x_1) ∧
        (dW s (vOf s) x x_1 x_2 = false → in64 ((x_1 : Int) + 1) ∧ (x_1 : Int) + 1 = ((x_1 + 1 : Nat) : Int) ∧ (dJ s (vOf s) x x_1).length = (dJ s (vOf s) x (x_1 + 1)).length ∧ dJ s (vOf s) x x_1 = dJ s (vOf s) x (x_1 + 1) ∧ x < x_1 + 1 ∧ x_1 + 1 ≤ (vOf s).length ∧ (vOf s).length - (x_1 + 1) < (vOf s).length - x_1)))) ∧
     (¬ (x_1 : Int) < (vOf s).length → in64 ((x : Int) + 1) ∧ (x : Int) + 1 = ((x + 1 : Nat) : Int) ∧ (dJ s (vOf s) x x_1).length = (Geo.diagUp s (vOf s) (x + 1)).length ∧ dJ s (vOf s) x x_1 = Geo.diagUp s (vOf s) (x + 1) ∧ x + 1 ≤ (vOf s).length ∧ (vOf s).length - (x + 1) < (vOf s).length - x))) ∧
   (¬ (x : Int) < (vOf s).length → Geo.diagUp s (vOf s) x = dOf s ∧ (Geo.diagUp s (vOf s) x).length = (Geo.diagUp s (vOf s) x).length ∧ 0 = eOf s)))) (by kernel_rfl) (by
  change Fit s at hp
  have hl := vOf_le s
  have gL : ∀ x : Nat, (x : Int) < (vOf s).length → in64 ((x : Int) + 1) := fun x h => i64w (by omega)
  have gJ : ∀ i j (e : Geo.S), i < (vOf s).length → j ≤ (vOf s).length → (dJ s (vOf s) i j).length + [e].length ≤ 1000000 := fun i j e h1 h2 => by
    have := dJ_len (s := s) hl h1 h2; simp; omega
  have gK : ∀ i j k : Nat, (k : Int) < (dJ s (vOf s) i j).length → i < (vOf s).length → j ≤ (vOf s).length → in64 ((k : Int) + 1) := fun i j k h h1 h2 => by
    have := dJ_len (s := s) hl h1 h2; exact i64w (by omega)
  have gE : ∀ x : Nat, ¬ (x : Int) < (vOf s).length → x ≤ (vOf s).length → ¬ ¬ eOf s = 0 → Geo.diagUp s (vOf s) x = dOf s := fun x h1 h2 h3 => by
    unfold dOf; rw [if_pos (eOf_yes h3), show x = (vOf s).length by omega]; rfl
  repeat' first | with_reducible apply And.intro | with_reducible intro
  all_goals repeat with_reducible cases ‹_ ∧ _›
  all_goals first | assumption | rfl | exact trivial | exact nb ‹_› | exact nb' ‹_› | omega | exact ix_mod (by omega) | (unfold ix; omega) | (unfold in64; omega) | exact upto_zero _ | exact upto_succ ‹_› ‹_› | (refine upto_succ ‹_› ?_; simp_all; done) | exact (eOf_no ‹_›).1 | exact gL _ ‹_› | exact (dJ_zero _ _ _).symm | exact congrArg List.length (dJ_zero _ _ _).symm | exact vOf_bd (by omega) | exact (dW_zero _ _ _ _).symm | exact dW_succ ‹_› (by omega) | exact gK _ _ _ ‹_› (by omega) ‹_› | exact gJ _ _ _ (by omega) ‹_› | exact dJ_yes ‹_› ‹_› ‹_› | exact dJ_no ‹_› ‹_› | exact congrArg List.length (dJ_yes ‹_› ‹_› ‹_›) | exact congrArg List.length (dJ_no ‹_› ‹_›) | exact dJ_end ‹_› ‹_› | exact congrArg List.length (dJ_end ‹_› ‹_›) | exact gE _ ‹_› ‹_› ‹_› | grind)
def t20 : Tab := tabL [(20, c20)] t72
theorem t20o : t20.Ok Tryz.prog := tabL_ok t72o ⟨k20, trivial⟩
end
end Go.Proofs.YtdaeofhdgabhjaaGreat
