/- What the statements about triangulations stand on: contracts of functions, plain laws. Part 5 of 6, no condition of its own. (J8 Shelf J9 J10 J11 J12 K13 K14 J13 N18 J14 K15 H1 H2 H3 H4 J15 K16 N17 J16 M0 Q0 K22 M1) -/
import Derived.Test.YtdaeofhdgabhjaaGreatD4
import Derived.Shelf.SlSortCmp.NoneTotal
import Derived.Ground.SlsfProg
import Derived.Test.YtdaeofhdgabhjaaGreatProg
import Derived.KernelRfl
import Derived.Test.YtdaeofhdgabhjaaGreatRows
import Derived.ProofKit
import Derived.Carry
import Derived.SizedLaws
import Derived.Deep.SlicePairs
import Derived.Lib.SmallJoins
namespace Go.Proofs.YtdaeofhdgabhjaaGreat
open Go.RowKit
section
variable {C : CellP} {w : World}
theorem RepC.rdV (hC : ∀ b o v, C b o v → w.cell? ⟨b, o, none⟩ = some v) {r : List Geo.V} {b o : Nat} (h : RepC C (encV r) b o) : RdV w (some ⟨b, o, none⟩) r := by
  intro i hi
  have h1 := wideV.at r i hi
  have g0 : (encV r)[i * 2]? = some (.int .i64 r[i].x) := by
    have := congrArg (fun l => l[0]?) h1
    simpa [List.getElem?_take, List.getElem?_drop] using this
  have g1 : (encV r)[i * 2 + 1]? = some (.int .i64 r[i].y) := by
    have := congrArg (fun l => l[1]?) h1
    simpa [List.getElem?_take, List.getElem?_drop] using this
  obtain ⟨v0, a1, _, a3⟩ := RepC.get _ _ _ h _ _ g0
  obtain ⟨v1, b1, _, b3⟩ := RepC.get _ _ _ h _ _ g1
  unfold RepV at a3 b3
  subst a3 b3
  have en : Geo.nth r i = r[i] := by unfold Geo.nth; rw [List.getD_eq_getElem?_getD, List.getElem?_eq_getElem hi]; rfl
  refine ⟨b, o, rfl, World.block_lt_of_cell? w ⟨b, _, none⟩ (hC _ _ _ a1), ?_, ?_⟩
  · rw [en]; exact hC _ _ _ a1
  · rw [en]; have := hC _ _ _ b1; rwa [show o + (i * 2 + 1) = o + i * 2 + 1 by omega] at this
theorem ring_rep (hC : ∀ b o v, C b o v → w.cell? ⟨b, o, none⟩ = some v) {r : List Geo.V} {v : Value} (h : RepV C (ringP r) v) : ∃ a c, v = .slice a r.length c ∧ RdV w a r ∧ r.length ≤ c ∧ (a = none → c = 0) := by
  unfold ringP RepV at h
  obtain ⟨a, c, rfl, h1, h2, h3⟩ := h
  refine ⟨a, c, rfl, ?_, h1, fun e => (h2 e).1⟩
  cases a with
  | none =>
    have : r = [] := by
      have := congrArg List.length (h2 rfl).2
      rw [wideV.length] at this
      exact List.length_eq_zero_iff.1 (by simp at this; omega)
    subst this
    intro i hi; simp at hi
  | some ad =>
    obtain ⟨b, o, sp⟩ := ad
    obtain ⟨h4, h5⟩ := h3 _ rfl
    dsimp only at h4 h5
    rcases Nat.eq_zero_or_pos r.length with hr0 | hr0
    · intro i hi; omega
    · have h4 := h4 hr0
      subst h4
      exact h5.rdV hC
theorem rings_cells (hC : ∀ b o v, C b o v → w.cell? ⟨b, o, none⟩ = some v) : ∀ (l : List Geo.Ring) (b o : Nat), RepC C (l.map ringP) b o → ∃ hs : List RV, hs.map RV.r = l ∧ (∀ i, i < hs.length → b < w.heap.size ∧ w.cell? ⟨b, o + i, none⟩ = some (RV.enc (hs.getD i default))) ∧ ∀ x ∈ hs, RdV w x.a x.r ∧ x.r.length ≤ x.c ∧ (x.a = none → x.c = 0)
  | [], b, o, _ => ⟨[], rfl, (fun i h => by simp at h), fun x h => by cases h⟩
  | r :: l, b, o, h => by
    rw [List.map_cons] at h
    unfold RepC at h
    obtain ⟨⟨v, h1, _, h2⟩, h3⟩ := h
    obtain ⟨a, c, rfl, h4, h5⟩ := ring_rep hC h2
    obtain ⟨hs, g1, g2, g3⟩ := rings_cells hC l b (o + 1) h3
    refine ⟨⟨a, c, r⟩ :: hs, by simp [g1], ?_, ?_⟩
    · intro i hi
      cases i with
      | zero => exact ⟨World.block_lt_of_cell? w ⟨b, _, none⟩ (hC _ _ _ h1), by simpa [RV.enc] using hC _ _ _ h1⟩
      | succ i =>
        have := g2 i (by simpa using hi)
        rw [show o + 1 + i = o + (i + 1) by omega] at this
        simpa using this
    · intro x hx
      rcases List.mem_cons.1 hx with rfl | hx
      · exact ⟨h4, h5⟩
      · exact g3 x hx
theorem rings_rep (hC : ∀ b o v, C b o v → w.cell? ⟨b, o, none⟩ = some v) {l : List Geo.Ring} {v : Value} (h : RepV C (ringsP l) v) :
    ∃ ah ch, ∃ hs : List RV, v = .slice ah hs.length ch ∧ hs.length ≤ ch ∧ hs.map RV.r = l ∧ RdH w.heap.size w ah hs ∧ ∀ x ∈ hs, RdV w x.a x.r ∧ x.r.length ≤ x.c ∧ (x.a = none → x.c = 0) := by
  unfold ringsP RepV at h
  obtain ⟨a, c, rfl, h1, h2, h3⟩ := h
  cases a with
  | none =>
    have : l = [] := by simpa using (h2 rfl).2
    subst this
    exact ⟨none, c, [], rfl, Nat.zero_le _, rfl, (fun i hi => by simp at hi), fun x hx => by cases hx⟩
  | some ad =>
    obtain ⟨b, o, sp⟩ := ad
    obtain ⟨h4, h5⟩ := h3 _ rfl
    dsimp only at h4 h5
    rcases Nat.eq_zero_or_pos l.length with hl0 | hl0
    · have : l = [] := List.length_eq_zero_iff.1 hl0
      subst this
      exact ⟨_, c, [], rfl, Nat.zero_le _, rfl, (fun i hi => by simp at hi), fun x hx => by cases hx⟩
    have h4 := h4 hl0
    subst h4
    obtain ⟨hs, g1, g2, g3⟩ := rings_cells hC l b o h5
    have hl : hs.length = l.length := by rw [← g1]; simp
    exact ⟨_, c, hs, by rw [hl], by omega, g1, fun i hi => ⟨b, o, rfl, (g2 i hi).1, (g2 i hi).2⟩, g3⟩
theorem shape_rep (hC : ∀ b o v, C b o v → w.cell? ⟨b, o, none⟩ = some v) {s : Geo.Shape} {v : Value} (hf : Fit s) (h : RepV C (shapeP s) v) :
    ∃ o ah ch hs, v = .agg #[RV.enc o, .slice ah hs.length ch] ∧ RdSh w o ah hs ∧ hs.length ≤ ch ∧ (∀ x ∈ o :: hs, x.r.length ≤ x.c) ∧ geoS o hs = s := by
  unfold shapeP RepV at h
  obtain ⟨vs, rfl, h1, _⟩ := h
  unfold RepL at h1
  obtain ⟨v1, r1, rfl, h2, h3⟩ := h1
  unfold RepL at h3
  obtain ⟨v2, r2, rfl, h4, h5⟩ := h3
  unfold RepL at h5
  subst h5
  obtain ⟨a, c, rfl, g1, g2⟩ := ring_rep hC h2
  obtain ⟨ah, ch, hs, rfl, k1, k2, k3, k4⟩ := rings_rep hC h4
  have hl : hs.length = s.holes.length := by rw [← k2]; simp
  refine ⟨⟨a, c, s.outer⟩, ah, ch, hs, rfl, ⟨k3, ?_, by rw [hl]; have := hf.2.1; omega⟩, k1, ?_, by unfold geoS; rw [k2]⟩
  · intro x hx
    rcases List.mem_cons.1 hx with rfl | hx
    · exact ⟨g1, hf.1, g2.1, g2.2⟩
    · exact ⟨(k4 x hx).1, hf.2.2 _ (by rw [← k2]; exact List.mem_map.2 ⟨x, hx, rfl⟩), (k4 x hx).2.1, (k4 x hx).2.2⟩
  · intro x hx
    rcases List.mem_cons.1 hx with rfl | hx
    · exact g2.1
    · exact (k4 x hx).2.1
theorem rep_cells {cs : List PV} {us : List Value} {a : Option Addr} {n c N : Nat} (hr : Rd w a us) (hf : Fresh N a) (hn : a = none → c = 0) (hc : n ≤ c) (hu : us.length = cs.length) (hsp : cs = [] → ∀ ad, a = some ad → ad.spot = none)
    (hv : ∀ (i : Nat) x u, cs[i]? = some x → us[i]? = some u → u.oneCell' = true ∧ RepV (fun b o x => N ≤ b ∧ w.cell? ⟨b, o, none⟩ = some x) x u) : RepV (fun b o x => N ≤ b ∧ w.cell? ⟨b, o, none⟩ = some x) (.sl n cs) (.slice a n c) := by
  unfold RepV
  refine ⟨a, c, rfl, hc, fun ha => ⟨hn ha, ?_⟩, fun ad ha => ?_⟩
  · cases cs with
    | nil => rfl
    | cons x cs =>
      cases us with
      | nil => simp at hu
      | cons u us => obtain ⟨b, off, h1, _⟩ := hr 0 u rfl; rw [ha] at h1; cases h1
  · subst ha
    cases cs with
    | nil =>
      exact ⟨fun _ => hsp rfl _ rfl, by unfold RepC; trivial⟩
    | cons x cs =>
      cases us with
      | nil => simp at hu
      | cons u us =>
        obtain ⟨b, off, h1, _⟩ := hr 0 u rfl
        cases h1
        refine ⟨fun _ => rfl, RepC.of _ _ _ fun i y hi => ?_⟩
        have hlt : i < (u :: us).length := by rw [hu]; exact (List.getElem?_eq_some_iff.1 hi).1
        have hui : (u :: us)[i]? = some (u :: us)[i] := List.getElem?_eq_getElem hlt
        obtain ⟨b', off', h2, _, h3⟩ := hr i _ hui
        cases h2
        obtain ⟨g1, g2⟩ := hv i y _ hi hui
        exact ⟨_, ⟨hf _ rfl, h3⟩, g1, g2⟩
end
theorem encV_cells {C : CellP} (r : List Geo.V) : (flatV r).length = (encV r).length ∧ ∀ (i : Nat) x u, (encV r)[i]? = some x → (flatV r)[i]? = some u → u.oneCell' = true ∧ RepV C x u := by
  refine ⟨by rw [flatV_length, wideV.length], ?_⟩
  have key : ∀ (l : List Geo.V) (i : Nat) x u, (l.flatMap fun v => [PV.int .i64 v.x, PV.int .i64 v.y])[i]? = some x → (l.flatMap fun v => [Value.int .i64 v.x, Value.int .i64 v.y])[i]? = some u → u.oneCell' = true ∧ RepV C x u := by
    intro l
    induction l with
    | nil => intro i x u h; simp at h
    | cons v l ih =>
      intro i x u h1 h2
      simp only [List.flatMap_cons, List.cons_append, List.nil_append] at h1 h2
      match i with
      | 0 => simp at h1 h2; subst h1 h2; exact ⟨rfl, by unfold RepV; rfl⟩
      | 1 => simp at h1 h2; subst h1 h2; exact ⟨rfl, by unfold RepV; rfl⟩
      | i + 2 => exact ih i x u (by simpa using h1) (by simpa using h2)
  exact key r
theorem encS_cells {C : CellP} (r : List Geo.S) : (flatG r).length = (encS r).length ∧ ∀ (i : Nat) x u, (encS r)[i]? = some x → (flatG r)[i]? = some u → u.oneCell' = true ∧ RepV C x u := by
  refine ⟨by rw [flatG_length, wideS.length], ?_⟩
  have key : ∀ (l : List Geo.S) (i : Nat) x u, (l.flatMap fun s => [PV.int .i64 s.a.x, PV.int .i64 s.a.y, PV.int .i64 s.b.x, PV.int .i64 s.b.y])[i]? = some x → (l.flatMap fun s => [Value.int .i64 s.a.x, Value.int .i64 s.a.y, Value.int .i64 s.b.x, Value.int .i64 s.b.y])[i]? = some u → u.oneCell' = true ∧ RepV C x u := by
    intro l
    induction l with
    | nil => intro i x u h; simp at h
    | cons v l ih =>
      intro i x u h1 h2
      simp only [List.flatMap_cons, List.cons_append, List.nil_append] at h1 h2
      match i with
      | 0 => simp at h1 h2; subst h1 h2; exact ⟨rfl, by unfold RepV; rfl⟩
      | 1 => simp at h1 h2; subst h1 h2; exact ⟨rfl, by unfold RepV; rfl⟩
      | 2 => simp at h1 h2; subst h1 h2; exact ⟨rfl, by unfold RepV; rfl⟩
      | 3 => simp at h1 h2; subst h1 h2; exact ⟨rfl, by unfold RepV; rfl⟩
      | i + 4 => exact ih i x u (by simpa using h1) (by simpa using h2)
  exact key r
theorem row_segs {w : World} {N : Nat} {v : Value} {xs : List Geo.S} (h : w.ownsRow N 46 4 v xs.length (flatG xs)) : RepV (fun b o x => N ≤ b ∧ w.cell? ⟨b, o, none⟩ = some x) (segsP xs) v := by
  have hsp : ∀ a c, v = .slice a xs.length c → ∀ ad, a = some ad → ad.spot = none := by
    intro a c hv ad ha
    rcases h.2 with ⟨h1, _⟩ | ⟨g, cap, cur, h1, _⟩
    · rw [h1] at hv; injection hv with e1; rw [← e1] at ha; cases ha
    · rw [h1] at hv; injection hv with e1; rw [← e1] at ha; cases ha; rfl
  obtain ⟨a, c, rfl, h1, h2, h3, h4⟩ := Rd.of_row' h
  obtain ⟨g1, g2⟩ := encS_cells (C := fun b o x => N ≤ b ∧ w.cell? ⟨b, o, none⟩ = some x) xs
  exact rep_cells h1 h2 h3 h4 g1 (fun _ => hsp a c rfl) g2
theorem rdV_ring {w : World} {N : Nat} {a : Option Addr} {c : Nat} {xs : List Geo.V} (h : RdV w a xs) (hf : Fresh N a) (hc : xs.length ≤ c) (h0 : 0 < xs.length) : RepV (fun b o x => N ≤ b ∧ w.cell? ⟨b, o, none⟩ = some x) (ringP xs) (.slice a xs.length c) := by
  obtain ⟨b0, o0, rfl, _⟩ := h 0 h0
  obtain ⟨g1, g2⟩ := encV_cells (C := fun b o x => N ≤ b ∧ w.cell? ⟨b, o, none⟩ = some x) xs
  refine rep_cells (us := flatV xs) ?_ hf (fun h => by cases h) hc g1 (fun _ ad ha => by cases ha; rfl) g2
  intro i u hi
  have hlt : i < xs.length * 2 := by rw [← flatV_length]; exact (List.getElem?_eq_some_iff.1 hi).1
  obtain ⟨k, hk⟩ : ∃ k, i = k * 2 ∨ i = k * 2 + 1 := ⟨i / 2, by omega⟩
  obtain ⟨b, o, he, h1, h2, h3⟩ := h k (by omega)
  cases he
  obtain ⟨f0, f1⟩ := flatV_get xs k (by omega)
  rcases hk with rfl | rfl
  · rw [f0] at hi; cases hi
    exact ⟨b0, o0, rfl, h1, h2⟩
  · rw [f1] at hi; cases hi
    exact ⟨b0, o0, rfl, h1, h3⟩
section
variable {fr : Bool}
theorem sat_shapeValid (s : Geo.Shape) (hf : Fit s) : Sat Tryz.prog true 55 [shapeP s] (.bool (Geo.validSP s)) := by
  refine ⟨by kernel_rfl, fun C w vs hC h => ?_⟩
  unfold RepL at h
  obtain ⟨v, r, rfl, h1, h2⟩ := h
  unfold RepL at h2; subst h2
  obtain ⟨o, ah, ch, hs, rfl, H, hch, _, rfl⟩ := shape_rep hC hf h1
  refine (shapeValid_any o ah ch hs w H hch).mono ?_
  rintro e w' ⟨rfl, hb⟩
  exact ⟨_, rfl, by unfold RepV; rfl, hb⟩
theorem sat_shapeEdges (s : Geo.Shape) (hf : Fit s) : Sat Tryz.prog true 131 [shapeP s] (segsP (Geo.edgesS s)) := by
  refine ⟨by kernel_rfl, fun C w vs hC h => ?_⟩
  unfold RepL at h
  obtain ⟨v, r, rfl, h1, h2⟩ := h
  unfold RepL at h2; subst h2
  obtain ⟨o, ah, ch, hs, rfl, H, hch, _, rfl⟩ := shape_rep hC hf h1
  have hn : hs.length ≤ 900 := by have := hf.2.1; simpa [geoS] using this
  refine (shapeEdges_any o ah ch hs w H hn).mono ?_
  rintro e w' ⟨v, rfl, hrow, hb⟩
  exact ⟨_, rfl, RepV.mono (fun b o x h => .inr h) _ _ (row_segs hrow), hb⟩
theorem sat_shapeArea (s : Geo.Shape) (hf : Fit s) : Sat Tryz.prog true 90 [shapeP s] (.int .i64 (if Geo.validSP s then areaSh s else 0)) := by
  refine ⟨by kernel_rfl, fun C w vs hC h => ?_⟩
  unfold RepL at h
  obtain ⟨v, r, rfl, h1, h2⟩ := h
  unfold RepL at h2; subst h2
  obtain ⟨o, ah, ch, hs, rfl, H, hch, _, rfl⟩ := shape_rep hC hf h1
  refine (shapeArea_any o ah ch hs w H hch).mono ?_
  rintro e w' ⟨rfl, hb⟩
  exact ⟨_, rfl, by unfold RepV; rfl, hb⟩
theorem rings_made {w : World} {N : Nat} {v : Value} {rs : List RV} (h : w.ownsRow N 23 1 v rs.length (rs.map RV.enc)) (hx : ∀ x ∈ rs, RdV w x.a x.r ∧ Fresh N x.a ∧ x.r.length ≤ x.c ∧ 0 < x.r.length) :
    RepV (fun b o x => N ≤ b ∧ w.cell? ⟨b, o, none⟩ = some x) (ringsP (rs.map RV.r)) v := by
  have hsp : ∀ a c, v = .slice a rs.length c → ∀ ad, a = some ad → ad.spot = none := by
    intro a c hv ad ha
    rcases h.2 with ⟨h1, _⟩ | ⟨g, cap, cur, h1, _⟩
    · rw [h1] at hv; injection hv with e1; rw [← e1] at ha; cases ha
    · rw [h1] at hv; injection hv with e1; rw [← e1] at ha; cases ha; rfl
  obtain ⟨a, c, rfl, h1, h2, h3, h4⟩ := Rd.of_row' h
  unfold ringsP
  rw [List.length_map]
  refine rep_cells h1 h2 h3 h4 (by simp) (fun _ => hsp a c rfl) ?_
  intro i x u hi hu
  rw [List.getElem?_map, List.getElem?_map] at hi
  rw [List.getElem?_map] at hu
  cases hr : rs[i]? with
  | none => rw [hr] at hi; cases hi
  | some y =>
    rw [hr] at hi hu
    simp only [Option.map_some, Option.some.injEq] at hi hu
    subst hi hu
    obtain ⟨k1, k2, k3, k4⟩ := hx y (List.mem_of_getElem? hr)
    exact ⟨rfl, rdV_ring k1 k2 k3 k4⟩
theorem sat_shapeRings (s : Geo.Shape) (hf : Fit s) (hp : 0 < s.outer.length ∧ ∀ r ∈ s.holes, 0 < r.length) : Sat Tryz.prog true 56 [shapeP s] (ringsP (Geo.ringsS s)) := by
  refine ⟨by kernel_rfl, fun C w vs hC h => ?_⟩
  unfold RepL at h
  obtain ⟨v, r, rfl, h1, h2⟩ := h
  unfold RepL at h2; subst h2
  obtain ⟨o, ah, ch, hs, rfl, H, hch, _, rfl⟩ := shape_rep hC hf h1
  refine (shapeRings_any o ah ch hs w H).mono ?_
  rintro e w' ⟨v, rs, rfl, hrs, hrow, hok, hb⟩
  refine ⟨_, rfl, RepV.mono (fun b o x h => .inr h) _ _ ?_, hb⟩
  rw [← hrs]
  refine rings_made hrow fun x hx => ⟨(hok x hx).rd, (hok x hx).fresh, (hok x hx).cap, ?_⟩
  have hm : x.r ∈ Geo.ringsS (geoS o hs) := by rw [← hrs]; exact List.mem_map.2 ⟨x, hx, rfl⟩
  unfold Geo.ringsS at hm
  rcases List.mem_cons.1 hm with h | h
  · rw [h]; exact hp.1
  · exact hp.2 _ h
end
def conF {α : Type} (fr : Bool) (A : Arl α) (pre : α → List Prop) (res : α → SV) : Con := ⟨α, A.dec, pre, .val fr res⟩
theorem con_sat {f : FuncId} {fr : Bool} {α : Type} {A : Arl α} {pre : α → List Prop} {res : α → SV} (B : α → List PV) (q : α → PV) (hB : ∀ x, avs (A.enc x) = (B x).map .p) (hq : ∀ x, (res x).av = .p (q x)) (h : ∀ x, andL (pre x) → Sat Tryz.prog fr f (B x) (q x)) : (conF fr A pre res).Ok Tryz.prog f := by
  intro s x hd hp
  exact ⟨B x, q x, (A.ok s x hd).trans (hB x), hq x, h x (andL_iff.2 hp)⟩
theorem enc_R (l : List Geo.Ring) : LT.R.enc l = l.map ringP := by
  unfold LT.enc; induction l with
  | nil => rfl
  | cons r l ih => rw [List.flatMap_cons, ih]; rfl
theorem enc_sh (s : Geo.Shape) : avs ((a1 aSh).enc s) = [shapeP s].map .p := by
  show [SV.av (.agg [.lst .V s.outer, .lst .R s.holes])] = _
  show [mkAgg [.p (.sl s.outer.length (encV s.outer)), .p (.sl s.holes.length (LT.R.enc s.holes))]] = _
  rw [enc_R]; rfl
def c55 : Con := conF true (a1 aSh) (fun s => [Fit s]) (fun s => .bool (Geo.validSP s))
theorem k55 : c55.Ok Tryz.prog 55 := con_sat (fun s => [shapeP s]) (fun s => .bool (Geo.validSP s)) enc_sh (fun _ => rfl) fun s h => sat_shapeValid s h
def c131 : Con := conF true (a1 aSh) (fun s => [Fit s]) (fun s => .lst .S (Geo.edgesS s))
theorem k131 : c131.Ok Tryz.prog 131 := con_sat (fun s => [shapeP s]) (fun s => segsP (Geo.edgesS s)) enc_sh (fun _ => rfl) fun s h => sat_shapeEdges s h
def c90 : Con := conF true (a1 aSh) (fun s => [Fit s]) (fun s => .int .i64 (if Geo.validSP s = true then areaSh s else 0))
theorem k90 : c90.Ok Tryz.prog 90 := con_sat (fun s => [shapeP s]) (fun s => .int .i64 (if Geo.validSP s = true then areaSh s else 0)) enc_sh (fun _ => rfl) fun s h => sat_shapeArea s h
def c56 : Con := conF true (a1 aSh) (fun s => [Fit s, 0 < s.outer.length, ∀ r ∈ s.holes, 0 < r.length]) (fun s => .lst .R (Geo.ringsS s))
theorem k56 : c56.Ok Tryz.prog 56 := con_sat (fun s => [shapeP s]) (fun s => ringsP (Geo.ringsS s)) enc_sh (fun s => by show AV.p (.sl _ (LT.R.enc _)) = _; rw [enc_R]; rfl) fun s h => sat_shapeRings s h.1 h.2
noncomputable def tS : Tab := tabL [(55, c55), (131, c131), (90, c90), (56, c56)] t124
theorem tSo : tS.Ok Tryz.prog := tabL_ok t124o ⟨k55, k131, k90, k56, trivial⟩
end Go.Proofs.YtdaeofhdgabhjaaGreat
/-
  DERIVED: THE SHELF's CONTRACTS AT THIS DUMP, IN PLAIN WORDS (tools/lay-plain.mjs out of 'YtdaeofhdgabhjaaGreatLayS.lean', which tools/lay-shelf.mjs wrote): THE SAME DECLARATIONS UNDER THE SAME NAMES: 'import', 'namespace', 'open', 'def', 'theorem' AND NOTHING ELSE: no command of the shelf's: FOR A HAND-IN. Each laying: the table of numbers ('.._ren') and one theorem, a field a fact of the dump's own or the kernel's comparison; each contract: ONE APPLICATION.
-/
namespace Go.Proofs
open Go.Shelf
def Tryz.sort68_ren : Go.Shelf.Ren := ⟨fun | 6 => 68 | 15 => 143 | 14 => 142 | 28 => 195 | 29 => 196 | 20 => 187 | 21 => 188 | 22 => 189 | 23 => 190 | 24 => 191 | 25 => 192 | 26 => 193 | 27 => 194 | 46 => 210 | 47 => 211 | 48 => 212 | 49 => 213 | 50 => 214 | 57 => 226 | n => n, fun | 22 => 24 | 24 => 23 | 25 => 40 | 3 => 3 | 39 => 134 | 0 => 0 | 53 => 170 | 55 => 172 | 4 => 4 | 46 => 163 | 45 => 162 | 50 => 167 | 5 => 5 | 9 => 9 | 66 => 180 | 70 => 184 | 76 => 193 | 77 => 60 | n => n, fun | n => n⟩
theorem Tryz.sort68 : Go.Proofs.SlLaysF.n6 Tryz.prog Tryz.sort68_ren := {
  mixed := by kernel_rfl
  f6 := ⟨Tryz.f68.name, by decide, Tryz.func68.trans (congrArg some (by kernel_rfl))⟩
  f14 := ⟨Tryz.f142.name, by decide, Tryz.func142.trans (congrArg some (by kernel_rfl))⟩
  f15 := Tryz.func143.trans (congrArg some (by kernel_rfl))
  f20 := ⟨Tryz.f187.name, by decide, Tryz.func187.trans (congrArg some (by kernel_rfl))⟩
  f21 := ⟨Tryz.f188.name, by decide, Tryz.func188.trans (congrArg some (by kernel_rfl))⟩
  f22 := ⟨Tryz.f189.name, by decide, Tryz.func189.trans (congrArg some (by kernel_rfl))⟩
  f23 := ⟨Tryz.f190.name, by decide, Tryz.func190.trans (congrArg some (by kernel_rfl))⟩
  f24 := ⟨Tryz.f191.name, by decide, Tryz.func191.trans (congrArg some (by kernel_rfl))⟩
  f25 := ⟨Tryz.f192.name, by decide, Tryz.func192.trans (congrArg some (by kernel_rfl))⟩
  f26 := ⟨Tryz.f193.name, by decide, Tryz.func193.trans (congrArg some (by kernel_rfl))⟩
  f27 := ⟨Tryz.f194.name, by decide, Tryz.func194.trans (congrArg some (by kernel_rfl))⟩
  f28 := Tryz.func195.trans (congrArg some (by kernel_rfl))
  f29 := Tryz.func196.trans (congrArg some (by kernel_rfl))
  f46 := ⟨Tryz.f210.name, by decide, Tryz.func210.trans (congrArg some (by kernel_rfl))⟩
  f47 := Tryz.func211.trans (congrArg some (by kernel_rfl))
  f48 := Tryz.func212.trans (congrArg some (by kernel_rfl))
  f49 := ⟨Tryz.f213.name, by decide, Tryz.func213.trans (congrArg some (by kernel_rfl))⟩
  f50 := ⟨Tryz.f214.name, by decide, Tryz.func214.trans (congrArg some (by kernel_rfl))⟩
  f57 := ⟨Tryz.f226.name, by decide, Tryz.func226.trans (congrArg some (by kernel_rfl))⟩
  t0 := Tryz.underlying0
  a0 := Tryz.isAgg0
  z0 := Tryz.sizeOf0
  v0 := Tryz.zeroValue0
  t3 := Tryz.underlying3
  a3 := Tryz.isAgg3
  z3 := Tryz.sizeOf3
  v3 := Tryz.zeroValue3
  t4 := Tryz.underlying4
  a4 := Tryz.isAgg4
  z4 := Tryz.sizeOf4
  v4 := Tryz.zeroValue4
  t5 := Tryz.underlying5
  a5 := Tryz.isAgg5
  z5 := Tryz.sizeOf5
  v5 := Tryz.zeroValue5
  t9 := Tryz.underlying9
  a9 := Tryz.isAgg9
  z9 := Tryz.sizeOf9
  v9 := Tryz.zeroValue9
  t22 := Tryz.underlying24
  a22 := Tryz.isAgg24
  z22 := Tryz.sizeOf24
  v22 := Tryz.zeroValue24
  a24 := Tryz.isAgg23
  z24 := Tryz.sizeOf23
  t25 := Tryz.underlying40
  a25 := Tryz.isAgg40
  z25 := Tryz.sizeOf40
  v25 := Tryz.zeroValue40
  t39 := Tryz.underlying134
  a39 := Tryz.isAgg134
  z39 := Tryz.sizeOf134
  v39 := Tryz.zeroValue134
  t45 := Tryz.underlying162
  a45 := Tryz.isAgg162
  z45 := Tryz.sizeOf162
  v45 := Tryz.zeroValue162
  t46 := Tryz.underlying163
  a46 := Tryz.isAgg163
  z46 := Tryz.sizeOf163
  v46 := Tryz.zeroValue163
  t50 := Tryz.underlying167
  a50 := Tryz.isAgg167
  z50 := Tryz.sizeOf167
  v50 := Tryz.zeroValue167
  t53 := Tryz.underlying170
  a53 := Tryz.isAgg170
  z53 := Tryz.sizeOf170
  v53 := Tryz.zeroValue170
  t55 := Tryz.underlying172
  a55 := Tryz.isAgg172
  z55 := Tryz.sizeOf172
  v55 := Tryz.zeroValue172
  t66 := Tryz.underlying180
  a66 := Tryz.isAgg180
  z66 := Tryz.sizeOf180
  v66 := Tryz.zeroValue180
  t70 := Tryz.underlying184
  a70 := Tryz.isAgg184
  z70 := Tryz.sizeOf184
  v70 := Tryz.zeroValue184
  t76 := Tryz.underlying193
  a76 := Tryz.isAgg193
  z76 := Tryz.sizeOf193
  v76 := Tryz.zeroValue193
  t77 := Tryz.underlying60
  a77 := Tryz.isAgg60
  z77 := Tryz.sizeOf60
  v77 := Tryz.zeroValue60 }
end Go.Proofs
namespace Go.Proofs.YtdaeofhdgabhjaaGreat
open Go.RowKit
set_option maxRecDepth 100000
open Geo (nth)
structure Lay (w w' : World) : Prop where
  below : Below w.heap.size w w'
  drawn : w.drawn ≤ w'.drawn
theorem Lay.refl (w : World) : Lay w w := ⟨Below.refl _ _, Nat.le_refl _⟩
theorem Lay.trans {a b c : World} (h : Lay a b) (k : Lay b c) : Lay a c := ⟨Below.then_ h.below k.below, Nat.le_trans h.drawn k.drawn⟩
theorem Lay.alloc {a b : World} (h : Lay a b) (x : Obj) : Lay a (b.alloc x) := ⟨h.below.alloc h.below.size _, h.drawn⟩
theorem Lay.drew {a b : World} (h : Lay a b) : Lay a b.drew := ⟨h.below.drew, Nat.le_trans h.drawn (Nat.le_succ _)⟩
theorem Lay.grow {w w' : World} (h : Lay w w') : ∃ q os, w' = Sort.grow (w.drewN q) os := by
  obtain ⟨p, hp⟩ := grD_of_below h.below
  refine ⟨w'.drawn - w.drawn, p.os, ?_⟩
  have hd := h.drawn
  have hn : w'.drawn = p.n := by rw [hp]; rfl
  rw [hp]
  unfold grD Sort.grow World.drewN
  simp only [World.mk.injEq, true_and, and_true]
  rw [hn] at hd
  omega
set_option maxHeartbeats 2000000 in
theorem compareL_any (ax ay bx b_y : Int) (w : World) : Calls Tryz.prog 78 #[.agg #[.int .i64 ax, .int .i64 ay], .agg #[.int .i64 bx, .int .i64 b_y]] w
    fun e w' => e = .returned (.int .i64 (cmpVW ax ay bx b_y)) ∧ Lay w w' := by
  have B1 := (Blk.new w 44 #[.int .i64 ax, .int .i64 ay]).alloc (.cells #[.int .i64 bx, .int .i64 b_y] 44)
  have B2 := Blk.new (w.alloc (.cells #[.int .i64 ax, .int .i64 ay] 44)) 44 #[.int .i64 bx, .int .i64 b_y]
  have hL : Lay w ((w.alloc (.cells #[.int .i64 ax, .int .i64 ay] 44)).alloc (.cells #[.int .i64 bx, .int .i64 b_y] 44)) := ((Lay.refl w).alloc _).alloc _
  rw [World.size_alloc] at B2
  go_enter Tryz.func78, Tryz.ntmps78
  go_upto_region 1 with fail
  generalize (w.alloc (.cells #[.int .i64 ax, .int .i64 ay] 44)).alloc (.cells #[.int .i64 bx, .int .i64 b_y] 44) = W at B1 B2 hL ⊢
  refine wp_region_F (by kernel_rfl) [4, 5, 6, 7, 8, 9, 10, 11, 12, 13, 14, 15, 16] [[], [0], [], [2], [0, 1, 2, 3], [], [5], [], [7], [0, 1, 2, 3, 4, 5, 6, 7, 8], [0, 1, 2, 3, 4, 5, 6, 7, 8, 9], [0, 1, 2, 3, 4, 5, 6, 7, 8, 9, 10], [0, 1, 2, 3, 4, 5, 6, 7, 8, 9, 10, 11]] (by kernel_rfl) (by kernel_rfl) (by intro s hs; simp at hs ⊢; omega)
    (fun D wx => Lay W wx)
    (fun i v wx => match i with
      | 0 => v = .pointer (some ⟨w.heap.size, 1, none⟩)
      | 1 => v = .int .i64 ay
      | 2 => v = .pointer (some ⟨w.heap.size + 1, 1, none⟩)
      | 3 => v = .int .i64 b_y
      | 4 => v = .int .i64 (cmpI ay b_y)
      | 5 => v = .pointer (some ⟨w.heap.size, 0, none⟩)
      | 6 => v = .int .i64 ax
      | 7 => v = .pointer (some ⟨w.heap.size + 1, 0, none⟩)
      | 8 => v = .int .i64 bx
      | 9 => v = .int .i64 (cmpI ax bx)
      | 10 => ∃ g, v = .slice (some ⟨g, 0, none⟩) 2 2 ∧ Blk wx g 3 #[.int .i64 (cmpI ay b_y), .int .i64 (cmpI ax bx)]
      | 11 => v = .int .i64 (cmpVW ax ay bx b_y)
      | 12 => v = .int .i64 (cmpVW ax ay bx b_y)
      | _ => True)
    (Lay.refl _).drew ?_ ?_ ?_
  · intro j v wx wy hf hxy
    match j with
    | 0 => exact hf
    | 1 => exact hf
    | 2 => exact hf
    | 3 => exact hf
    | 4 => exact hf
    | 5 => exact hf
    | 6 => exact hf
    | 7 => exact hf
    | 8 => exact hf
    | 9 => exact hf
    | 10 => obtain ⟨g, h1, h2⟩ := hf; exact ⟨g, h1, h2.then_ hxy⟩
    | 11 => exact hf
    | 12 => exact hf
    | _ + 13 => exact trivial
  · refine ⟨?_, ?_, ?_, ?_, ?_, ?_, ?_, ?_, ?_, ?_, ?_, ?_, ?_, trivial⟩
    · intro D V wx hD hanc hdesc hin hWR
      have hA := hWR
      have e2 := hin 2 (by kernel_rfl)
      simp at e2
      refine opK ?_
      intro K hK
      simp [opRun, execOp, evalV, e2, go_sem]
      exact hK _ _ ⟨rfl, hWR, .inl rfl⟩
    · intro D V wx hD hanc hdesc hin hWR
      have hA := hWR
      have e5 : V 5 = .pointer (some ⟨w.heap.size, 1, none⟩) := (hanc 0 (by kernel_rfl)).2
      have q0 := (Blk.then_ B1 hA.below).cell 1
      simp at q0
      refine opK ?_
      intro K hK
      simp [opRun, execOp, evalV, e5, q0, go_sem]
      exact hK _ _ ⟨rfl, hWR, .inl rfl⟩
    · intro D V wx hD hanc hdesc hin hWR
      have hA := hWR
      have e3 := hin 3 (by kernel_rfl)
      simp at e3
      refine opK ?_
      intro K hK
      simp [opRun, execOp, evalV, e3, go_sem]
      exact hK _ _ ⟨rfl, hWR, .inl rfl⟩
    · intro D V wx hD hanc hdesc hin hWR
      have hA := hWR
      have e7 : V 7 = .pointer (some ⟨w.heap.size + 1, 1, none⟩) := (hanc 2 (by kernel_rfl)).2
      have q0 := (Blk.then_ B2 hA.below).cell 1
      simp at q0
      refine opK ?_
      intro K hK
      simp [opRun, execOp, evalV, e7, q0, go_sem]
      exact hK _ _ ⟨rfl, hWR, .inl rfl⟩
    · intro D V wx hD hanc hdesc hin hWR
      have hA := hWR
      have e6 : V 6 = .int .i64 ay := (hanc 1 (by kernel_rfl)).2
      have e8 : V 8 = .int .i64 b_y := (hanc 3 (by kernel_rfl)).2
      refine opK ?_
      intro K hK
      simp [opRun, execOp, evalV, e6, e8, go_sem]
      refine (cmp_any _ _ _).mono ?_
      rintro e w1 ⟨rfl, rfl⟩
      exact ⟨_, rfl, hK _ _ ⟨rfl, hWR, .inl rfl⟩⟩
    · intro D V wx hD hanc hdesc hin hWR
      have hA := hWR
      have e2 := hin 2 (by kernel_rfl)
      simp at e2
      refine opK ?_
      intro K hK
      simp [opRun, execOp, evalV, e2, go_sem]
      exact hK _ _ ⟨rfl, hWR, .inl rfl⟩
    · intro D V wx hD hanc hdesc hin hWR
      have hA := hWR
      have e10 : V 10 = .pointer (some ⟨w.heap.size, 0, none⟩) := (hanc 5 (by kernel_rfl)).2
      have q0 := (Blk.then_ B1 hA.below).cell 0
      simp at q0
      refine opK ?_
      intro K hK
      simp [opRun, execOp, evalV, e10, q0, go_sem]
      exact hK _ _ ⟨rfl, hWR, .inl rfl⟩
    · intro D V wx hD hanc hdesc hin hWR
      have hA := hWR
      have e3 := hin 3 (by kernel_rfl)
      simp at e3
      refine opK ?_
      intro K hK
      simp [opRun, execOp, evalV, e3, go_sem]
      exact hK _ _ ⟨rfl, hWR, .inl rfl⟩
    · intro D V wx hD hanc hdesc hin hWR
      have hA := hWR
      have e12 : V 12 = .pointer (some ⟨w.heap.size + 1, 0, none⟩) := (hanc 7 (by kernel_rfl)).2
      have q0 := (Blk.then_ B2 hA.below).cell 0
      simp at q0
      refine opK ?_
      intro K hK
      simp [opRun, execOp, evalV, e12, q0, go_sem]
      exact hK _ _ ⟨rfl, hWR, .inl rfl⟩
    · intro D V wx hD hanc hdesc hin hWR
      have hA := hWR
      have e11 : V 11 = .int .i64 ax := (hanc 6 (by kernel_rfl)).2
      have e13 : V 13 = .int .i64 bx := (hanc 8 (by kernel_rfl)).2
      refine opK ?_
      intro K hK
      simp [opRun, execOp, evalV, e11, e13, go_sem]
      refine (cmp_any _ _ _).mono ?_
      rintro e w1 ⟨rfl, rfl⟩
      exact ⟨_, rfl, hK _ _ ⟨rfl, hWR, .inl rfl⟩⟩
    · intro D V wx hD hanc hdesc hin hWR
      have hA := hWR
      have e9 : V 9 = .int .i64 (cmpI ay b_y) := (hanc 4 (by kernel_rfl)).2
      have e14 : V 14 = .int .i64 (cmpI ax bx) := (hanc 9 (by kernel_rfl)).2
      refine opK ?_
      intro K hK
      simp [opRun, execOp, evalV, e9, e14, go_sem]
      exact hK _ _ ⟨⟨_, rfl, Blk.new _ _ _⟩, (hA.alloc _), .inr (.inl ((Below.refl _ _).alloc (Nat.le_refl _) _))⟩
    · intro D V wx hD hanc hdesc hin hWR
      have hA := hWR
      have e15 := (hanc 10 (by kernel_rfl)).2
      refine opK ?_
      intro K hK
      obtain ⟨g, e15, hg⟩ := e15
      have e15 : V 15 = _ := e15
      have q0 := hg.cell 0
      have q1 := hg.cell 1
      simp at q0 q1
      simp [opRun, execOp, evalV, e15, go_sem]
      refine (or_any _ _ _ _ q0 q1).mono ?_
      rintro e w1 ⟨rfl, rfl⟩
      exact ⟨_, rfl, hK _ _ ⟨rfl, hWR, .inl rfl⟩⟩
    · intro D V wx hD hanc hdesc hin hWR
      have hA := hWR
      have e16 : V 16 = .int .i64 (cmpVW ax ay bx b_y) := (hanc 11 (by kernel_rfl)).2
      refine opK ?_
      intro K hK
      simp [opRun, execOp, evalV, e16, go_sem]
      exact hK _ _ ⟨rfl, hWR, .inl rfl⟩
  intro D V wx hall hf hWR
  have f0 : V 5 = .pointer (some ⟨w.heap.size, 1, none⟩) := hf 0 (by decide)
  have f1 : V 6 = .int .i64 ay := hf 1 (by decide)
  have f2 : V 7 = .pointer (some ⟨w.heap.size + 1, 1, none⟩) := hf 2 (by decide)
  have f3 : V 8 = .int .i64 b_y := hf 3 (by decide)
  have f4 : V 9 = .int .i64 (cmpI ay b_y) := hf 4 (by decide)
  have f5 : V 10 = .pointer (some ⟨w.heap.size, 0, none⟩) := hf 5 (by decide)
  have f6 : V 11 = .int .i64 ax := hf 6 (by decide)
  have f7 : V 12 = .pointer (some ⟨w.heap.size + 1, 0, none⟩) := hf 7 (by decide)
  have f8 : V 13 = .int .i64 bx := hf 8 (by decide)
  have f9 : V 14 = .int .i64 (cmpI ax bx) := hf 9 (by decide)
  have f10 := hf 10 (by decide)
  have f11 : V 16 = .int .i64 (cmpVW ax ay bx b_y) := hf 11 (by decide)
  have f12 : V 4 = .int .i64 (cmpVW ax ay bx b_y) := hf 12 (by decide)
  clear hf hall
  simp only [putAll, List.foldl_cons, List.foldl_nil, f0, f1, f2, f3, f4, f5, f6, f7, f8, f9, f11, f12]
  simp only [Act.put, List.setIfInBounds_toArray, List.set_cons_succ, List.set_cons_zero]
  clear f0 f1 f2 f3 f4 f5 f6 f7 f8 f9 f11 f12
  go_wp2
  go_ret
  exact ⟨rfl, hL.trans hWR⟩
def cmp0 (x y : Geo.Ring) : Int := cmpVW (nth x 0).x (nth x 0).y (nth y 0).x (nth y 0).y
set_option maxHeartbeats 2000000 in
theorem cmp127_any (xa ya : Option Addr) (xc yc : Nat) (xs ys : Geo.Ring) (w : World) (hx : RdV w xa xs) (hy : RdV w ya ys) (h0 : 0 < xs.length) (h1 : 0 < ys.length) (_hlx : xs.length ≤ 1000) (_hly : ys.length ≤ 1000) :
    Calls Tryz.prog 127 #[.slice xa xs.length xc, .slice ya ys.length yc] w fun e w' => e = .returned (.int .i64 (cmp0 xs ys)) ∧ Lay w w' := by
  obtain ⟨b, off, rfl, hb, p0, p1⟩ := hx 0 h0
  obtain ⟨b', off', rfl, hb', q0, q1⟩ := hy 0 h1
  have HC : Hid (cmp0 xs ys = cmpVW (nth xs 0).x (nth xs 0).y (nth ys 0).x (nth ys 0).y) := Lib.hid rfl
  generalize (nth xs 0).x = ax at p0 HC
  generalize (nth xs 0).y = ay at p1 HC
  generalize (nth ys 0).x = bx at q0 HC
  generalize (nth ys 0).y = b_y at q1 HC
  simp only [Nat.zero_mul, Nat.add_zero] at p0 p1 q0 q1
  go_enter Tryz.func127, Tryz.ntmps127
  go_upto_region 1 with fail
  have r0 := Lib.hid p0
  have r1 := Lib.hid p1
  have r2 := Lib.hid q0
  have r3 := Lib.hid q1
  clear p0 p1 q0 q1
  refine wp_region_F (by kernel_rfl) [4, 5, 6, 7, 8, 9, 10, 11] [[], [0], [0, 1], [], [3], [3, 4], [0, 1, 2, 3, 4, 5], [0, 1, 2, 3, 4, 5, 6]] (by kernel_rfl) (by kernel_rfl) (by intro s hs; simp at hs ⊢; omega)
    (fun D wx => Lay w wx)
    (fun i v wx => match i with
      | 0 => v = .slice (some ⟨b, off, none⟩) xs.length xc
      | 1 => v = .pointer (some ⟨b, off, none⟩)
      | 2 => v = .agg #[.int .i64 ax, .int .i64 ay]
      | 3 => v = .slice (some ⟨b', off', none⟩) ys.length yc
      | 4 => v = .pointer (some ⟨b', off', none⟩)
      | 5 => v = .agg #[.int .i64 bx, .int .i64 b_y]
      | 6 => v = .int .i64 (cmpVW ax ay bx b_y)
      | 7 => v = .int .i64 (cmpVW ax ay bx b_y)
      | _ => True)
    (Lay.refl _).drew ?_ ?_ ?_
  · intro j v wx wy hf hxy
    match j with
    | 0 => exact hf
    | 1 => exact hf
    | 2 => exact hf
    | 3 => exact hf
    | 4 => exact hf
    | 5 => exact hf
    | 6 => exact hf
    | 7 => exact hf
    | _ + 8 => exact trivial
  · refine ⟨?_, ?_, ?_, ?_, ?_, ?_, ?_, ?_, trivial⟩
    · intro D V wx hD hanc hdesc hin hWR
      have hA := hWR
      have e0 := hin 0 (by kernel_rfl)
      simp at e0
      refine opK ?_
      intro K hK
      simp [opRun, execOp, evalV, e0, go_sem]
      exact hK _ _ ⟨rfl, hWR, .inl rfl⟩
    · intro D V wx hD hanc hdesc hin hWR
      have hA := hWR
      have e5 : V 5 = .slice (some ⟨b, off, none⟩) xs.length xc := (hanc 0 (by kernel_rfl)).2
      refine opK ?_
      intro K hK
      simp [opRun, execOp, evalV, e5, h0, go_sem]
      exact hK _ _ ⟨rfl, hWR, .inl rfl⟩
    · intro D V wx hD hanc hdesc hin hWR
      have hA := hWR
      have e6 : V 6 = .pointer (some ⟨b, off, none⟩) := (hanc 1 (by kernel_rfl)).2
      have s0 := (hA.below.cell (p := ⟨b, off, none⟩) hb).trans r0.out
      have s1 := (hA.below.cell (p := ⟨b, off + 1, none⟩) hb).trans r1.out
      refine opK ?_
      intro K hK
      simp [opRun, execOp, evalV, e6, s0, s1, go_sem]
      exact hK _ _ ⟨rfl, hWR, .inl rfl⟩
    · intro D V wx hD hanc hdesc hin hWR
      have hA := hWR
      have e1 := hin 1 (by kernel_rfl)
      simp at e1
      refine opK ?_
      intro K hK
      simp [opRun, execOp, evalV, e1, go_sem]
      exact hK _ _ ⟨rfl, hWR, .inl rfl⟩
    · intro D V wx hD hanc hdesc hin hWR
      have hA := hWR
      have e8 : V 8 = .slice (some ⟨b', off', none⟩) ys.length yc := (hanc 3 (by kernel_rfl)).2
      refine opK ?_
      intro K hK
      simp [opRun, execOp, evalV, e8, h1, go_sem]
      exact hK _ _ ⟨rfl, hWR, .inl rfl⟩
    · intro D V wx hD hanc hdesc hin hWR
      have hA := hWR
      have e9 : V 9 = .pointer (some ⟨b', off', none⟩) := (hanc 4 (by kernel_rfl)).2
      have s0 := (hA.below.cell (p := ⟨b', off', none⟩) hb').trans r2.out
      have s1 := (hA.below.cell (p := ⟨b', off' + 1, none⟩) hb').trans r3.out
      refine opK ?_
      intro K hK
      simp [opRun, execOp, evalV, e9, s0, s1, go_sem]
      exact hK _ _ ⟨rfl, hWR, .inl rfl⟩
    · intro D V wx hD hanc hdesc hin hWR
      have hA := hWR
      have e7 : V 7 = .agg #[.int .i64 ax, .int .i64 ay] := (hanc 2 (by kernel_rfl)).2
      have e10 : V 10 = .agg #[.int .i64 bx, .int .i64 b_y] := (hanc 5 (by kernel_rfl)).2
      refine opK ?_
      intro K hK
      simp [opRun, execOp, evalV, e7, e10, go_sem]
      refine (compareL_any ax ay bx b_y wx).mono ?_
      rintro e w1 ⟨rfl, hc⟩
      exact ⟨_, rfl, hK _ _ ⟨rfl, hA.trans hc, .inr (.inl hc.below)⟩⟩
    · intro D V wx hD hanc hdesc hin hWR
      have hA := hWR
      have e11 : V 11 = .int .i64 (cmpVW ax ay bx b_y) := (hanc 6 (by kernel_rfl)).2
      refine opK ?_
      intro K hK
      simp [opRun, execOp, evalV, e11, go_sem]
      exact hK _ _ ⟨rfl, hWR, .inl rfl⟩
  intro D V wx hall hf hWR
  have f0 : V 5 = .slice (some ⟨b, off, none⟩) xs.length xc := hf 0 (by decide)
  have f1 : V 6 = .pointer (some ⟨b, off, none⟩) := hf 1 (by decide)
  have f2 : V 7 = .agg #[.int .i64 ax, .int .i64 ay] := hf 2 (by decide)
  have f3 : V 8 = .slice (some ⟨b', off', none⟩) ys.length yc := hf 3 (by decide)
  have f4 : V 9 = .pointer (some ⟨b', off', none⟩) := hf 4 (by decide)
  have f5 : V 10 = .agg #[.int .i64 bx, .int .i64 b_y] := hf 5 (by decide)
  have f6 : V 11 = .int .i64 (cmpVW ax ay bx b_y) := hf 6 (by decide)
  have f7 : V 4 = .int .i64 (cmpVW ax ay bx b_y) := hf 7 (by decide)
  clear hf hall
  simp only [putAll, List.foldl_cons, List.foldl_nil, f0, f1, f2, f3, f4, f5, f6, f7]
  simp only [Act.put, List.setIfInBounds_toArray, List.set_cons_succ, List.set_cons_zero]
  clear f0 f1 f2 f3 f4 f5 f6 f7
  go_wp2
  go_ret
  exact ⟨ret_int HC.out.symm, hWR⟩
end Go.Proofs.YtdaeofhdgabhjaaGreat
namespace Go.Proofs.YtdaeofhdgabhjaaGreat
open Go.RowKit Go.Sort Go.Shelf Go.Lib
section
variable {α : Type} [Inhabited α]
theorem sortWorld_cells {enc : α → Value} {w : World} {g n : Nat} {d : Array α} {os : Array Obj} {cur : Array Value} {t : TypeId} (hb : w.heap[g]? = some (.cells cur t (0, 0))) : (sortWorld enc w g 0 n d os).heap[g]? = some (.cells (putCells enc 0 d cur) t (0, 0)) := by
  have hlt := (Array.getElem?_eq_some_iff.1 hb).1
  unfold sortWorld Sort.grow putRow mapBlock
  simp only [heap_ahead]
  rw [Array.getElem?_append_left (by simpa using hlt), Array.getElem?_modify, if_pos rfl, hb]
  rfl
theorem sortWorld_grown {enc : α → Value} {w : World} {g n : Nat} {d : Array α} {os : Array Obj} : w.grownBy (sortWorld enc w g 0 n d os) (some g) := by
  refine ⟨rfl, rfl, rfl, ?_, ?_⟩
  · unfold sortWorld Sort.grow putRow mapBlock
    simp
  · intro k hk hne
    unfold sortWorld Sort.grow putRow mapBlock
    simp only [heap_ahead]
    rw [Array.getElem?_append_left (by simpa using hk), Array.getElem?_modify, if_neg (fun e => hne (by rw [e]))]
theorem putCells_take {enc : α → Value} {d : Array α} {cur : Array Value} (h : d.size ≤ cur.size) : (putCells enc 0 d cur).toList.take d.size = d.toList.map enc := by
  apply List.ext_getElem?
  intro i
  rw [List.getElem?_take]
  by_cases hi : i < d.size
  · rw [if_pos hi]
    unfold putCells
    simp [hi, show i < cur.size by omega]
  · rw [if_neg hi, List.getElem?_eq_none (by simp; omega)]
end
theorem sortRings_any (g : Nat) (hg : ∀ args w, (callFunc g args).run Tryz.prog w = .ok (.enter g args) w) (cf : Geo.Ring → Geo.Ring → Int) (base : Nat) (v : Value) (rs : List RV) (w : World) (hl : rs.length ≤ 1000000)
    (hrow : w.ownsRow base 23 1 v rs.length (rs.map RV.enc)) (hok : ∀ x ∈ rs, RingOk base w v x) (hO : SWO (ltOf fun x y : { x : RV // x ∈ rs } => cf x.1.r y.1.r))
    (hcmp : ∀ x ∈ rs, ∀ y ∈ rs, ∀ wx, RdV wx x.a x.r → RdV wx y.a y.r → Calls Tryz.prog g #[x.enc, y.enc] wx fun e w' => e = .returned (.int .i64 (cf x.r y.r)) ∧ Lay wx w') :
    Calls Tryz.prog 68 #[v, .func (.func g) #[] #[]] w fun e w' => e = .returned (.tuple #[]) ∧ ∃ rs' : List RV, rs'.Perm rs ∧ rs'.Pairwise (fun a b => ¬ cf b.r a.r < 0) ∧ w'.ownsRow base 23 1 v rs'.length (rs'.map RV.enc) ∧ (∀ x ∈ rs', RingOk base w' v x) ∧ w.grownBy w' v.ownBlock := by
  by_cases hr0 : rs = []
  · subst hr0
    have hv : ∃ p cap, v = .slice p 0 cap := by
      rcases hrow.2 with ⟨h1, _⟩ | ⟨gb, cap, cur, h1, _⟩
      · exact ⟨_, _, h1⟩
      · exact ⟨_, _, h1⟩
    obtain ⟨p, cap, rfl⟩ := hv
    have h := AnyF.slices_SortFunc_none (P := Tryz.prog) (ρ := Tryz.sort68_ren) { Tryz.sort68 with } p cap (.func (.func g) #[] #[]) w
    change Calls Tryz.prog 68 _ _ _ at h
    refine h.mono ?_
    rintro e w' ⟨rfl, rfl⟩
    exact ⟨rfl, [], List.Perm.refl _, List.Pairwise.nil, hrow, hok, ⟨rfl, rfl, rfl, Nat.le_refl _, fun _ _ _ => rfl⟩⟩
  · obtain ⟨x0, hx0⟩ := List.exists_mem_of_ne_nil _ hr0
    have : Inhabited { x : RV // x ∈ rs } := ⟨⟨x0, hx0⟩⟩
    rcases hrow.2 with ⟨_, h1⟩ | ⟨gb, cap, cur, rfl, hbb, hh, hn, hcap, hsz, htk⟩
    · exact absurd (List.length_eq_zero_iff.1 h1) hr0
    · obtain ⟨d, hd⟩ : ∃ d : Array { x : RV // x ∈ rs }, d = rs.attach.toArray := ⟨_, rfl⟩
      have hds : d.size = rs.length := by rw [hd]; simp
      have hdm : d.toList.map (·.1) = rs := by rw [hd]; simp
      have hcs : rs.length ≤ cur.size := by rw [hsz]; omega
      have hH : Holds (fun x : { x : RV // x ∈ rs } => RV.enc x.1) w gb 0 d := by
        intro j hj
        have e1 : cur[j]? = some (RV.enc d[j]!.1) := by
          have e2 : (cur.toList.take (rs.length * 1))[j]? = (rs.map RV.enc)[j]? := by rw [htk]
          rw [List.getElem?_take, if_pos (by omega)] at e2
          have e3 : (rs.map RV.enc)[j]? = some (RV.enc d[j]!.1) := by
            have e4 : ((d.toList.map (·.1)).map RV.enc)[j]? = some (RV.enc d[j]!.1) := by
              rw [List.map_map, List.getElem?_map]
              simp [hj]
            rw [hdm] at e4
            exact e4
          rw [e3] at e2
          simpa using e2
        refine ⟨?_, ?_⟩
        · rw [Nat.zero_add]
          exact (cell_of_row w gb j cur 23 (0, 0) hh).trans e1
        · simp [World.frozen?, hh]
      have hblk : gb < w.heap.size := (Array.getElem?_eq_some_iff.1 hh).1
      have h := Any.slices_SortFunc (P := Tryz.prog) (ρ := Tryz.sort68_ren) Tryz.sort68 (fun x : { x : RV // x ∈ rs } => RV.enc x.1) (fun _ => rfl) (fun x y => cf x.1.r y.1.r) hO g #[] gb 0 cap d w hg (by
        intro m os dk hdk x y
        have hG := sortWorld_grown (enc := fun x : { x : RV // x ∈ rs } => RV.enc x.1) (w := w) (g := gb) (n := m) (d := dk) (os := os)
        have h1 := hcmp x.1 x.2 y.1 y.2 _ ((hok x.1 x.2).rd.grown (hok x.1 x.2).sep hG) ((hok y.1 y.2).rd.grown (hok y.1 y.2).sep hG)
        rw [show (#[RV.enc x.1, RV.enc y.1] ++ (#[] : Array Value)) = #[RV.enc x.1, RV.enc y.1] by simp]
        exact h1.mono fun e w' ⟨he, hL⟩ => ⟨he, hL.grow⟩) hH hblk (by omega)
      change Calls Tryz.prog 68 _ _ _ at h
      rw [hds] at h
      refine h.mono ?_
      rintro e w' ⟨rfl, d', n, os, hp, hs, rfl⟩
      obtain ⟨p1, _, p3⟩ := hp
      have hG := sortWorld_grown (enc := fun x : { x : RV // x ∈ rs } => RV.enc x.1) (w := w) (g := gb) (n := n) (d := d') (os := os)
      have hperm : d'.toList.Perm d.toList := by
        have e1 : (d'.extract 0 rs.length).toList = d'.toList := by rw [← hds, ← p1]; simp
        have e2 : (d.extract 0 rs.length).toList = d.toList := by rw [← hds]; simp
        rwa [e1, e2] at p3
      have hpr : (d'.toList.map (·.1)).Perm rs := by
        have := hperm.map (·.1)
        rwa [hdm] at this
      have hlen : (d'.toList.map (·.1)).length = rs.length := hpr.length_eq
      refine ⟨rfl, d'.toList.map (·.1), hpr, ?_, ?_, ?_, hG⟩
      · rw [List.pairwise_map, List.pairwise_iff_getElem]
        intro i j hi hj hij
        have hj' : j < d'.size := by simpa using hj
        have := hs i j (Nat.zero_le _) hij (by rw [← hds, ← p1]; exact hj')
        unfold ltOf at this
        rw [getElem!_pos d' i (by omega), getElem!_pos d' j hj'] at this
        simpa using this
      · refine ⟨by simp, .inr ⟨gb, cap, _, by rw [hlen], hbb, sortWorld_cells hh, by omega, hcap, by unfold putCells; simpa using hsz, ?_⟩⟩
        rw [hlen, Nat.mul_one, ← hds, ← p1, putCells_take (by omega), List.map_map]
        rfl
      · intro x hx
        have hx2 := hpr.mem_iff.1 hx
        have ok := hok x hx2
        exact ⟨ok.rd.grown ok.sep hG, ok.fresh, ok.cap, ok.len, ok.sep⟩
end Go.Proofs.YtdaeofhdgabhjaaGreat
namespace Go.Proofs.YtdaeofhdgabhjaaGreat
open Go.RowKit
theorem orI_cmp (p q : Geo.V) : cmpVW p.x p.y q.x q.y = Geo.cmpV p q := by
  unfold cmpVW orI Geo.cmpV cmpI Geo.cmpI; grind
theorem cmpRing_step {xs ys : Geo.Ring} {k : Nat} (hx : k < xs.length) (hy : k < ys.length) : Geo.cmpRing (xs.drop k) (ys.drop k) = if Geo.cmpV (Geo.nth xs k) (Geo.nth ys k) = 0 then Geo.cmpRing (xs.drop (k + 1)) (ys.drop (k + 1)) else Geo.cmpV (Geo.nth xs k) (Geo.nth ys k) := by
  have e1 : Geo.nth xs k = xs[k] := by unfold Geo.nth; simp [List.getD_eq_getElem?_getD, hx]
  have e2 : Geo.nth ys k = ys[k] := by unfold Geo.nth; simp [List.getD_eq_getElem?_getD, hy]
  rw [List.drop_eq_getElem_cons hx, List.drop_eq_getElem_cons hy, e1, e2]
  by_cases h : Geo.cmpV xs[k] ys[k] = 0
  · rw [if_pos h]
    show (if Geo.cmpV xs[k] ys[k] ≠ 0 then _ else _) = _
    rw [if_neg (by simpa using h)]
  · rw [if_neg h]
    show (if Geo.cmpV xs[k] ys[k] ≠ 0 then _ else _) = _
    rw [if_pos h]
theorem cmpRing_gt {xs ys : Geo.Ring} {k : Nat} (hx : k < xs.length) (hy : ys.length ≤ k) : Geo.cmpRing (xs.drop k) (ys.drop k) = 1 := by
  rw [List.drop_eq_getElem_cons hx, List.drop_eq_nil_of_le hy]; rfl
theorem cmpRing_end {xs ys : Geo.Ring} {k : Nat} (hx : xs.length ≤ k) (hk : k ≤ xs.length) : Geo.cmpRing (xs.drop k) (ys.drop k) = if xs.length < ys.length then -1 else 0 := by
  rw [List.drop_eq_nil_of_le hx]
  by_cases h : xs.length < ys.length
  · rw [if_pos h, List.drop_eq_getElem_cons (show k < ys.length by omega)]; rfl
  · rw [if_neg h, List.drop_eq_nil_of_le (show ys.length ≤ k by omega)]; rfl
set_option maxRecDepth 100000 in
set_option maxHeartbeats 2000000 in
theorem compareFunc_any (xa ya : Option Addr) (xc yc : Nat) (xs ys : Geo.Ring) (w : World) (hx : RdV w xa xs) (hy : RdV w ya ys) (hlx : xs.length ≤ 1000) (_hly : ys.length ≤ 1000) :
    Calls Tryz.prog 77 #[.slice xa xs.length xc, .slice ya ys.length yc, .func (.func 78) #[] #[]] w fun e w' => e = .returned (.int .i64 (Geo.cmpRing xs ys)) ∧ Lay w w' := by
  go_enter Tryz.func77, Tryz.ntmps77
  go_wp2
  go_loopw [7, 8, 9, 10, 13] (fun _ _ _ _ i wr => ∃ k : Nat, k ≤ xs.length ∧ i = .int .i64 k ∧ Hid (Geo.cmpRing xs ys = Geo.cmpRing (xs.drop k) (ys.drop k)) ∧ Lay w wr) (fun _ _ _ _ i _ => xs.length - (intOf i).toNat)
  case atStart => exact ⟨0, by omega, rfl, Lib.hid (by simp), Lay.refl _⟩
  case round =>
    obtain ⟨k, hk, rfl, HF, hb⟩ := hrel
    by_cases hlt : k < xs.length
    · obtain ⟨b, off, rfl, hbl, p0, p1⟩ := (hx.below hb.below) k hlt
      by_cases hly2 : k < ys.length
      · obtain ⟨b', off', rfl, hbl', q0, q1⟩ := (hy.below hb.below) k hly2
        have HS := Lib.hid (HF.out.trans (cmpRing_step hlt hly2))
        obtain ⟨⟨ax, ay⟩, hz⟩ : ∃ z, z = Geo.nth xs k := ⟨_, rfl⟩
        obtain ⟨⟨bx, b_y⟩, hz'⟩ : ∃ z, z = Geo.nth ys k := ⟨_, rfl⟩
        rw [← hz] at p0 p1
        rw [← hz'] at q0 q1
        rw [← hz, ← hz'] at HS
        dsimp only at p0 p1 q0 q1
        clear hz hz'
        have q0' : (wr.alloc (.cells #[.int .i64 ax, .int .i64 ay] 44)).cell? ⟨b', off' + k * 2, none⟩ = some (.int .i64 bx) := (((Below.refl _ wr).alloc (Nat.le_refl _) _).cell (p := ⟨b', _, none⟩) hbl').trans q0
        have q1' : (wr.alloc (.cells #[.int .i64 ax, .int .i64 ay] 44)).cell? ⟨b', off' + k * 2 + 1, none⟩ = some (.int .i64 b_y) := (((Below.refl _ wr).alloc (Nat.le_refl _) _).cell (p := ⟨b', _, none⟩) hbl').trans q1
        have hne : ¬ ys.length ≤ k := by omega
        go_wp2_with fail
        refine (compareL_any ax ay bx b_y _).mono ?_
        rintro e w1 ⟨rfl, hb1⟩
        have HC : Hid (cmpVW ax ay bx b_y = Geo.cmpV ⟨ax, ay⟩ ⟨bx, b_y⟩) := Lib.hid (orI_cmp ⟨ax, ay⟩ ⟨bx, b_y⟩)
        rw [HC.out]
        have hb2 := ((hb.alloc (.cells #[.int .i64 ax, .int .i64 ay] 44)).alloc (.cells #[.int .i64 bx, .int .i64 b_y] 44)).trans hb1
        clear HC hb1 p0 p1 q0 q1 q0' q1'
        generalize Geo.cmpV ⟨ax, ay⟩ ⟨bx, b_y⟩ = C at HS ⊢
        by_cases hc : C = 0
        · subst hc
          have HS2 : Hid (Geo.cmpRing xs ys = Geo.cmpRing (xs.drop (k + 1)) (ys.drop (k + 1))) := Lib.hid (HS.out.trans (if_pos rfl))
          go_wp2
          go_roundw
          case rel => exact ⟨k + 1, by omega, by go_num, HS2, hb2⟩
          case measure => simp [intOf]; omega
        · have HS2 : Hid (Geo.cmpRing xs ys = C) := Lib.hid (HS.out.trans (if_neg hc))
          have e1 : (C != 0) = true := by simp [hc]
          have e2 : (C == 0) = false := by simp [hc]
          go_wp2
          go_ret
          exact ⟨ret_int HS2.out.symm, hb2⟩
      · have HS := Lib.hid (HF.out.trans (cmpRing_gt hlt (show ys.length ≤ k by omega)))
        go_wp2
        go_ret
        exact ⟨ret_int HS.out.symm, hb.alloc _⟩
    · have HS := Lib.hid (HF.out.trans (cmpRing_end (show xs.length ≤ k by omega) hk))
      by_cases hq : xs.length < ys.length
      · have HS2 := Lib.hid (HS.out.trans (if_pos hq))
        go_wp2
        go_ret
        exact ⟨ret_int HS2.out.symm, hb⟩
      · have HS2 := Lib.hid (HS.out.trans (if_neg hq))
        go_wp2
        go_ret
        exact ⟨ret_int HS2.out.symm, hb⟩
set_option maxHeartbeats 400000 in
theorem compareRing_any (xa ya : Option Addr) (xc yc : Nat) (xs ys : Geo.Ring) (w : World) (hx : RdV w xa xs) (hy : RdV w ya ys) (hlx : xs.length ≤ 1000) (hly : ys.length ≤ 1000) :
    Calls Tryz.prog 26 #[.slice xa xs.length xc, .slice ya ys.length yc] w fun e w' => e = .returned (.int .i64 (Geo.cmpRing xs ys)) ∧ Lay w w' := by
  go_enter Tryz.func26, Tryz.ntmps26
  go_wp2_with (go_at_call 77; (with_reducible refine (compareFunc_any _ _ _ _ _ _ _ hx hy hlx hly).mono ?_); rintro e w1 ⟨rfl, hb1⟩)
  go_ret
  exact ⟨rfl, hb1⟩
end Go.Proofs.YtdaeofhdgabhjaaGreat
namespace Go.Proofs.YtdaeofhdgabhjaaGreat
open Go.RowKit
theorem cmpRing_swo {rs : List RV} : Sort.SWO (ltOf fun x y : { x : RV // x ∈ rs } => Geo.cmpRing x.1.r y.1.r) := by
  have h : ∀ x y : { x : RV // x ∈ rs }, ltOf (fun x y : { x : RV // x ∈ rs } => Geo.cmpRing x.1.r y.1.r) x y = true ↔ Geo.cmpRing x.1.r y.1.r < 0 := by
    intro x y
    unfold ltOf
    rw [decide_eq_true_eq]
  refine ⟨?_, ?_, ?_⟩
  · intro x
    rw [Bool.eq_false_iff, ne_eq, h]
    have := Geo.cmpRing_refl x.1.r
    omega
  · intro x y z h1 h2
    rw [h] at *
    exact Geo.cmpRing_trans _ _ _ h1 h2
  · intro x y z h1 h2
    rw [Bool.eq_false_iff, ne_eq, h] at *
    have e1 := Geo.cmpRing_swap x.1.r y.1.r
    have e2 := Geo.cmpRing_swap y.1.r z.1.r
    have e3 := Geo.cmpRing_swap x.1.r z.1.r
    have := @Geo.leRing_trans z.1.r y.1.r x.1.r
    unfold Geo.leRing at this
    omega
theorem cmpRing_le {a b : Geo.Ring} (h : ¬ Geo.cmpRing b a < 0) : Geo.leRing a b := by
  have := Geo.cmpRing_swap a b
  unfold Geo.leRing; omega
theorem ring_rep2 {C : CellP} {w : World} {b : Nat} (hC : ∀ b' o v, C b' o v → w.cell? ⟨b', o, none⟩ = some v ∧ b' ≠ b) {r : List Geo.V} {v : Value} (h : RepV C (ringP r) v) :
    ∃ a c, v = .slice a r.length c ∧ RdV w a r ∧ r.length ≤ c ∧ (0 < r.length → ∀ ad, a = some ad → ad.block ≠ b) := by
  obtain ⟨a, c, hv, h1, h2, _⟩ := ring_rep (fun b' o v h => (hC b' o v h).1) h
  refine ⟨a, c, hv, h1, h2, fun h0 ad ha => ?_⟩
  unfold ringP RepV at h
  obtain ⟨a', c', hv', _, _, h3⟩ := h
  rw [hv] at hv'
  simp only [Value.slice.injEq, true_and] at hv'
  obtain ⟨rfl, rfl⟩ := hv'
  obtain ⟨_, h5⟩ := h3 _ ha
  have hl : 0 < (encV r).length := by rw [wideV.length]; omega
  obtain ⟨u, h6, _⟩ := h5.get _ _ _ 0 _ (List.getElem?_eq_getElem hl)
  exact (hC _ _ _ h6).2
structure RingIn (C : CellP) (w : World) (b : Nat) (x : RV) : Prop where
  rep : RepV C (ringP x.r) x.enc
  rd : RdV w x.a x.r
  cap : x.r.length ≤ x.c
  sep : 0 < x.r.length → ∀ ad, x.a = some ad → ad.block ≠ b
theorem rings_arr {C : CellP} {w : World} {b : Nat} (hC : ∀ b' o v, C b' o v → w.cell? ⟨b', o, none⟩ = some v ∧ b' ≠ b) : ∀ (l : List Geo.Ring) (us : List Value),
    (∀ (i : Nat) x, (l.map ringP)[i]? = some x → ∃ v, us[i]? = some v ∧ RepV C x v) → ∃ rs : List RV, rs.map RV.r = l ∧ rs.map RV.enc = us.take l.length ∧ ∀ x ∈ rs, RingIn C w b x
  | [], us, _ => ⟨[], rfl, by simp, by simp⟩
  | r :: l, us, h => by
    obtain ⟨v, h1, h2⟩ := h 0 (ringP r) rfl
    cases us with
    | nil => simp at h1
    | cons u us =>
      simp at h1; subst h1
      obtain ⟨rs, h3, h4, h5⟩ := rings_arr hC l us fun i x hi => by simpa using h (i + 1) x (by simpa using hi)
      obtain ⟨a, c, rfl, g1, g2, g3⟩ := ring_rep2 hC h2
      refine ⟨⟨a, c, r⟩ :: rs, by simp [h3], by simp [h4, RV.enc], ?_⟩
      intro x hx
      rcases List.mem_cons.1 hx with rfl | hx
      · exact ⟨h2, g1, g2, g3⟩
      · exact h5 x hx
theorem grown_none {w w' : World} (h : w.grownBy w' none) : Below w.heap.size w w' := ⟨h.os, h.tape, h.output, h.size, fun k hk => h.block k hk (by simp)⟩
theorem run26 (args : Array Value) (w : World) : (callFunc 26 args).run Tryz.prog w = .ok (.enter 26 args) w := run_callFunc (by kernel_rfl) args w
theorem ltTrip {rs : List RV} (h : ∀ x ∈ rs, x.r.length ≤ 1000) : ∀ x ∈ rs, ∀ y ∈ rs, ∀ wx, RdV wx x.a x.r → RdV wx y.a y.r → Calls Tryz.prog 26 #[x.enc, y.enc] wx fun e w' => e = .returned (.int .i64 (Geo.cmpRing x.r y.r)) ∧ Lay wx w' :=
  fun x hx y hy wx h1 h2 => compareRing_any x.a y.a x.c y.c x.r y.r wx h1 h2 (h x hx) (h y hy)
theorem sat_sortG (g : Nat) (hg : ∀ args w, (callFunc g args).run Tryz.prog w = .ok (.enter g args) w) (cf : Geo.Ring → Geo.Ring → Int) (l m : List Geo.Ring) (hn : l.length ≤ 1000000) (hl : ∀ r ∈ l, r.length ≤ 1000) (hlen : m.length = l.length)
    (hO : ∀ rs : List RV, rs.map RV.r = l → Sort.SWO (ltOf fun x y : { x : RV // x ∈ rs } => cf x.1.r y.1.r))
    (hc : ∀ rs : List RV, rs.map RV.r = l → ∀ x ∈ rs, ∀ y ∈ rs, ∀ wx, RdV wx x.a x.r → RdV wx y.a y.r → Calls Tryz.prog g #[x.enc, y.enc] wx fun e w' => e = .returned (.int .i64 (cf x.r y.r)) ∧ Lay wx w')
    (hu : ∀ k : List Geo.Ring, k.Perm l → k.Pairwise (fun a b => ¬ cf b a < 0) → k = m) : SatM Tryz.prog 68 (some l.length) [.fn (.func g) [] []] 23 1 (l.map ringP) (m.map ringP) := by
  have hfn : ∀ (C : CellP) (vs : List Value), RepL C [.fn (.func g) [] []] vs → vs = [.func (.func g) #[] #[]] := by
    intro C vs h
    unfold RepL at h
    obtain ⟨v, r, rfl, h1, h2⟩ := h
    unfold RepL at h2; subst h2
    unfold RepV at h1
    obtain ⟨a, b, rfl, h3, h4⟩ := h1
    unfold RepL at h3 h4; subst h3; subst h4; rfl
  refine ⟨by kernel_rfl, by simp [hlen], ?_, ?_⟩
  · intro C w b c arr vs hC hL hnc hA
    rw [hfn C vs hA]
    have hnc := hnc _ rfl
    obtain ⟨h1, h2, h3⟩ := hL.row (by decide)
    obtain ⟨rs, g1, g2, g3⟩ := rings_arr hC l arr.toList fun i x hi => by
      obtain ⟨v, k1, _, k2⟩ := hL.cells i x hi
      exact ⟨v, by simpa using k1, k2⟩
    have hrl : rs.length = l.length := by rw [← g1, List.length_map]
    have hr1 : ∀ x ∈ rs, x.r.length ≤ 1000 := fun x hx => hl _ (by rw [← g1]; exact List.mem_map_of_mem hx)
    have hrow : w.ownsRow 0 23 1 (.slice (some ⟨b, 0, none⟩) l.length c) rs.length (rs.map RV.enc) :=
      ⟨by simp, .inr ⟨b, c, arr, by rw [hrl], Nat.zero_le _, hL.blk, by omega, h3, h1, by rw [Nat.mul_one, hrl, g2]⟩⟩
    refine (sortRings_any g hg cf 0 _ rs w (by omega) hrow ?_ (hO rs g1) (hc rs g1)).mono ?_
    · intro x hx
      refine ⟨(g3 x hx).rd, fun ad _ => Nat.zero_le _, (g3 x hx).cap, hr1 x hx, fun h0 ad ha e => (g3 x hx).sep h0 ad ha ?_⟩
      simp only [Value.ownBlock, Option.some.injEq] at e
      exact e.symm
    · rintro e w' ⟨rfl, rs', hp, hs, hrow', hok', hg⟩
      have hso : rs'.map RV.r = m := by
        refine hu _ (by rw [← g1]; exact hp.map _) ?_
        rw [List.pairwise_map]
        exact hs
      obtain ⟨hz, hcase⟩ := hrow'
      rcases hcase with ⟨e, _⟩ | ⟨gb, cap, cur, e, _, hblk, hnc', hcm, hsz, htk⟩
      · cases e
      · simp only [Value.slice.injEq, Option.some.injEq, Addr.mk.injEq, and_true] at e
        obtain ⟨rfl, e2, rfl⟩ := e
        refine ⟨cur, rfl, ⟨hblk, fun h => absurd h (by decide), fun _ => ⟨hsz, by rw [List.length_map, hlen]; omega, hcm⟩, ?_⟩, hg⟩
        intro i x hi
        rw [← hso, List.map_map] at hi
        rw [List.getElem?_map] at hi
        cases hx : rs'[i]? with
        | none => rw [hx] at hi; cases hi
        | some y =>
          rw [hx] at hi
          simp only [Option.map_some, Option.some.injEq, Function.comp] at hi
          subst hi
          have hi' : i < rs'.length := (List.getElem?_eq_some_iff.1 hx).1
          have hy : y ∈ rs := hp.mem_iff.1 (List.mem_of_getElem? hx)
          have h7 : (rs'.map RV.enc)[i]? = some y.enc := by rw [List.getElem?_map, hx]; rfl
          rw [← htk, List.getElem?_take_of_lt (by omega)] at h7
          exact ⟨y.enc, by simpa using h7, rfl, (g3 y hy).rep⟩
  · intro h0 C w vs hC hA
    rw [hfn C vs hA]
    have hl0 : l = [] := List.length_eq_zero_iff.1 (by simpa using h0)
    subst hl0
    refine (sortRings_any g hg cf 0 (.slice none 0 0) [] w (by simp) ⟨by simp, .inl ⟨rfl, rfl⟩⟩ (by simp) (hO [] rfl) (hc [] rfl)).mono ?_
    rintro e w' ⟨rfl, rs', _, _, _, _, hg⟩
    exact ⟨rfl, grown_none hg⟩
theorem cmp0_lt (a b : Geo.Ring) : cmp0 a b < 0 ↔ Geo.lessV (Geo.nth a 0) (Geo.nth b 0) = true := by
  unfold cmp0; rw [orI_cmp]; exact cmpV_lt _ _
theorem run127 (args : Array Value) (w : World) : (callFunc 127 args).run Tryz.prog w = .ok (.enter 127 args) w := run_callFunc (by kernel_rfl) args w
theorem cmp0_swo {rs : List RV} : Sort.SWO (ltOf fun x y : { x : RV // x ∈ rs } => cmp0 x.1.r y.1.r) := by
  have h : ∀ x y : { x : RV // x ∈ rs }, ltOf (fun x y : { x : RV // x ∈ rs } => cmp0 x.1.r y.1.r) x y = true ↔ Geo.lessV (Geo.nth x.1.r 0) (Geo.nth y.1.r 0) = true := by
    intro x y
    unfold ltOf
    rw [decide_eq_true_eq, cmp0_lt]
  refine ⟨?_, ?_, ?_⟩
  · intro x
    rw [Bool.eq_false_iff, ne_eq, h, lessV_irr]; simp
  · intro x y z h1 h2
    rw [h] at *
    revert h1 h2; unfold Geo.lessV; grind
  · intro x y z h1 h2
    rw [Bool.eq_false_iff, ne_eq, h] at *
    revert h1 h2; unfold Geo.lessV; grind
theorem sat_sort26 (l : List Geo.Ring) (hn : l.length ≤ 1000000) (hl : ∀ r ∈ l, r.length ≤ 1000) : SatM Tryz.prog 68 (some l.length) [.fn (.func 26) [] []] 23 1 (l.map ringP) ((Geo.sortR l).map ringP) :=
  sat_sortG 26 run26 Geo.cmpRing l _ hn hl (Geo.sortR_perm l).length_eq (fun _ _ => cmpRing_swo) (fun rs hr => ltTrip fun x hx => hl _ (by rw [← hr]; exact List.mem_map_of_mem hx))
    fun k hp hs => Geo.sortR_unique hp (hs.imp fun h => cmpRing_le h)
theorem sat_sort127 (l : List Geo.Ring) (hn : l.length ≤ 1000000) (hl : ∀ r ∈ l, 0 < r.length ∧ r.length ≤ 1000) (ha : ∀ a ∈ l, ∀ b ∈ l, Geo.leH a b → Geo.leH b a → a = b) : SatM Tryz.prog 68 (some l.length) [.fn (.func 127) [] []] 23 1 (l.map ringP) ((Geo.sortH l).map ringP) := by
  have hm : ∀ rs : List RV, rs.map RV.r = l → ∀ x ∈ rs, x.r ∈ l := fun rs hr x hx => by rw [← hr]; exact List.mem_map_of_mem hx
  refine sat_sortG 127 run127 cmp0 l _ hn (fun r hr => (hl r hr).2) (Geo.sortH_perm l).length_eq (fun _ _ => cmp0_swo) (fun rs hr x hx y hy wx h1 h2 => ?_) fun k hp hs => ?_
  · have g1 := hl _ (hm rs hr x hx)
    have g2 := hl _ (hm rs hr y hy)
    exact cmp127_any x.a y.a x.c y.c x.r y.r wx h1 h2 g1.1 g2.1 g1.2 g2.2
  · have hs : k.Pairwise Geo.leH := hs.imp fun {a b} h => by
      rw [cmp0_lt] at h
      exact (Geo.lessV_false _ _).1 (by simpa using h)
    exact List.Perm.eq_of_pairwise (fun a b h1 h2 h3 h4 => ha a (hp.mem_iff.1 h1) b ((Geo.sortH_perm l).mem_iff.1 h2) h3 h4) hs (Geo.sortH_sorted l) (hp.trans (Geo.sortH_perm l).symm)
def d68 : List SV → Option (List Geo.Ring × Bool)
  | [.lst .R l, .fnp 26 [] []] => some (l, true)
  | [.lst .R l, .fnp 127 [] []] => some (l, false)
  | _ => none
def r68 : List Geo.Ring × Bool → List Geo.Ring
  | (l, true) => Geo.sortR l
  | (l, false) => Geo.sortH l
def p68 : List Geo.Ring × Bool → List Prop
  | (l, true) => [l.length ≤ 1000000, ∀ r ∈ l, r.length ≤ 1000]
  | (l, false) => [l.length ≤ 1000000, ∀ r ∈ l, 0 < r.length ∧ r.length ≤ 1000, ∀ a ∈ l, ∀ b ∈ l, Geo.leH a b → Geo.leH b a → a = b]
theorem d68_some {l : List Geo.Ring} {rest : List SV} {x : List Geo.Ring × Bool} (h : d68 (.lst .R l :: rest) = some x) : (rest = [.fnp 26 [] []] ∧ x = (l, true)) ∨ (rest = [.fnp 127 [] []] ∧ x = (l, false)) := by
  unfold d68 at h
  split at h
  · rename_i e; cases e; cases h; exact .inl ⟨rfl, rfl⟩
  · rename_i e; cases e; cases h; exact .inr ⟨rfl, rfl⟩
  · cases h
def c68 : Con := ⟨List Geo.Ring × Bool, d68, p68, .mutR .R 23 r68⟩
theorem k68 : c68.Ok Tryz.prog 68 := by
  intro l rest x hd hp
  rcases d68_some hd with ⟨rfl, rfl⟩ | ⟨rfl, rfl⟩
  · refine ⟨[.fn (.func 26) [] []], rfl, ?_⟩
    rw [enc_R]
    show SatM _ _ _ _ _ _ _ (LT.R.enc (Geo.sortR l))
    rw [enc_R]
    exact sat_sort26 l (hp _ List.mem_cons_self) (hp _ (List.mem_cons_of_mem _ List.mem_cons_self))
  · refine ⟨[.fn (.func 127) [] []], rfl, ?_⟩
    rw [enc_R]
    show SatM _ _ _ _ _ _ _ (LT.R.enc (Geo.sortH l))
    rw [enc_R]
    exact sat_sort127 l (hp _ List.mem_cons_self) (hp _ (List.mem_cons_of_mem _ List.mem_cons_self)) (hp _ (List.mem_cons_of_mem _ (List.mem_cons_of_mem _ List.mem_cons_self)))
noncomputable def t68 : Tab := tabL [(68, c68)] tS
theorem t68o : t68.Ok Tryz.prog := tabL_ok tSo ⟨k68, trivial⟩
end Go.Proofs.YtdaeofhdgabhjaaGreat
namespace Go.Proofs.YtdaeofhdgabhjaaGreat
open Go.RowKit
set_option maxRecDepth 100000
noncomputable section
open Geo (edgesS nth nthR)
theorem holesP_at {p : Geo.Pt} {w : Int} : ∀ {l : List Geo.Ring} {k : Nat}, k < l.length → (∀ j, j < k → ¬ Geo.whereP (nthR l j) p = 2 ∧ ¬ Geo.whereP (nthR l j) p = 1) → (Geo.whereP (nthR l k) p = 2 → 0 = Geo.holesP p l w) ∧ (¬ Geo.whereP (nthR l k) p = 2 → Geo.whereP (nthR l k) p = 1 → 1 = Geo.holesP p l w)
  | [], k, h, _ => by simp at h
  | r :: l, 0, h, _ => by
    unfold Geo.holesP
    refine ⟨fun e => ?_, fun e1 e2 => ?_⟩
    · rw [if_pos (show Geo.whereP r p = 2 from e)]
    · rw [if_neg (show ¬ Geo.whereP r p = 2 from e1), if_pos (show Geo.whereP r p = 1 from e2)]
  | r :: l, k + 1, h, h1 => by
    unfold Geo.holesP
    obtain ⟨e1, e2⟩ := h1 0 (by omega)
    rw [if_neg (show ¬ Geo.whereP r p = 2 from e1), if_neg (show ¬ Geo.whereP r p = 1 from e2)]
    exact holesP_at (l := l) (k := k) (by simpa using h) fun j hj => h1 (j + 1) (by omega)
theorem holesP_end {p : Geo.Pt} {w : Int} : ∀ {l : List Geo.Ring}, (∀ j, j < l.length → ¬ Geo.whereP (nthR l j) p = 2 ∧ ¬ Geo.whereP (nthR l j) p = 1) → w = Geo.holesP p l w
  | [], _ => rfl
  | r :: l, h1 => by
    unfold Geo.holesP
    obtain ⟨e1, e2⟩ := h1 0 (by simp)
    rw [if_neg (show ¬ Geo.whereP r p = 2 from e1), if_neg (show ¬ Geo.whereP r p = 1 from e2)]
    exact holesP_end (l := l) fun j hj => h1 (j + 1) (by simpa using hj)
def c66 : Con := con (ac aSh (a1 aT)) (fun (s, _) => [Fit s]) (fun (s, p) => .int .i64 (Geo.whereSP s p))
theorem k66 : c66.Ok Tryz.prog 66 := con_ok (cx_ok t68o) (raw := noRaw) (fun (s, p) => [cnt 7 21 s.holes.length (upto fun j => ¬ Geo.whereP (nthR s.holes j) p = 2 ∧ ¬ Geo.whereP (nthR s.holes j) p = 1)]
  ) (fun (_, _) => ⟨_, rfl⟩) fun (s, p) hp => by_vc (q := Fit s ∧ ((!Geo.validSP s) = true → 0 = Geo.whereSP s p) ∧
 ((!Geo.validSP s) = false → s.outer.length ≤ 1000 ∧ (¬ Geo.whereP s.outer p = 2 → Geo.whereP s.outer p = Geo.whereSP s p) ∧
  (¬ (¬ Geo.whereP s.outer p = 2) → (0 = (0 : Int) ∧ (0 : Nat) ≤ s.holes.length ∧ upto (fun j => ¬ Geo.whereP (nthR s.holes j) p = 2 ∧ ¬ Geo.whereP (nthR s.holes j) p = 1) 0) ∧
   (∀ x : Nat, x ≤ s.holes.length ∧ upto (fun j => ¬ Geo.whereP (nthR s.holes j) p = 2 ∧ ¬ Geo.whereP (nthR s.holes j) p = 1) x → ((x : Int) < s.holes.length → ix (x : Int) s.holes.length ∧ (nthR s.holes x).length ≤ 1000 ∧ (Geo.whereP (nthR s.holes x) p = 2 → 0 = Geo.whereSP s p) ∧
     (¬ Geo.whereP (nthR s.holes x) p = 2 → (Geo.whereP (nthR s.holes x) p = 1 → 1 = Geo.whereSP s p) ∧
      (¬ Geo.whereP (nthR s.holes x) p = 1 → in64 ((x : Int) + 1) ∧ (x : Int) + 1 = ((x + 1 : Nat) : Int) ∧ x + 1 ≤ s.holes.length ∧ upto (fun j => ¬ Geo.whereP (nthR s.holes j) p = 2 ∧ ¬ Geo.whereP (nthR s.holes j) p = 1) (x + 1) ∧ s.holes.length - (x + 1) < s.holes.length - x))) ∧
    (¬ (x : Int) < s.holes.length → Geo.whereP s.outer p = Geo.whereSP s p))))) (by kernel_rfl) (by
  change Fit s at hp
  have w0 : (!Geo.validSP s) = true → 0 = Geo.whereSP s p := fun h => by unfold Geo.whereSP; rw [if_pos h]
  have w1 : (!Geo.validSP s) = false → ¬ Geo.whereP s.outer p = 2 → Geo.whereP s.outer p = Geo.whereSP s p := fun h h2 => by unfold Geo.whereSP; rw [h]; exact (if_pos h2).symm
  have w2 : (!Geo.validSP s) = false → ¬ ¬ Geo.whereP s.outer p = 2 → Geo.whereSP s p = Geo.holesP p s.holes 2 := fun h h2 => by unfold Geo.whereSP; rw [h]; exact if_neg h2
  have hl : ∀ x : Nat, (x : Int) < s.holes.length → (nthR s.holes x).length ≤ 1000 := fun x h => hp.2.2 _ (Geo.nthR_mem (by omega))
  have hn := hp.2.1
  have ho := hp.1
  have a2 : ∀ x : Nat, (x : Int) < s.holes.length → upto (fun j => ¬ Geo.whereP (nthR s.holes j) p = 2 ∧ ¬ Geo.whereP (nthR s.holes j) p = 1) x → Geo.whereP (nthR s.holes x) p = 2 → 0 = Geo.holesP p s.holes 2 := fun x h1 h2 h3 => (holesP_at (by omega) h2).1 h3
  have a1 : ∀ x : Nat, (x : Int) < s.holes.length → upto (fun j => ¬ Geo.whereP (nthR s.holes j) p = 2 ∧ ¬ Geo.whereP (nthR s.holes j) p = 1) x → ¬ Geo.whereP (nthR s.holes x) p = 2 → Geo.whereP (nthR s.holes x) p = 1 → 1 = Geo.holesP p s.holes 2 := fun x h1 h2 h3 h4 => (holesP_at (by omega) h2).2 h3 h4
  have a0 : ∀ x : Nat, ¬ (x : Int) < s.holes.length → x ≤ s.holes.length → upto (fun j => ¬ Geo.whereP (nthR s.holes j) p = 2 ∧ ¬ Geo.whereP (nthR s.holes j) p = 1) x → 2 = Geo.holesP p s.holes 2 := fun x h1 h2 h3 => by
    obtain rfl : x = s.holes.length := by omega
    exact holesP_end h3
  have hf := hp
  clear hp
  repeat' first | with_reducible apply And.intro | with_reducible intro
  all_goals repeat with_reducible cases ‹_ ∧ upto _ _›
  all_goals first | assumption | rfl | omega | (unfold ix; omega) | (unfold in64; omega) | exact upto_zero _ | exact w0 ‹_› | exact w1 ‹_› ‹_› | exact hl _ ‹_› | (rw [w2 ‹_› ‹_›]; exact a2 _ ‹_› ‹_› ‹_›) | (rw [w2 ‹_› ‹_›]; exact a1 _ ‹_› ‹_› ‹_› ‹_›) | (rw [w2 ‹_› ‹_›, Decidable.of_not_not ‹¬ ¬ Geo.whereP s.outer p = 2›]; exact a0 _ ‹_› ‹_› ‹_›) | exact upto_succ ‹_› ⟨‹_›, ‹_›⟩)
def t66 : Tab := tabL [(66, c66)] t68
theorem t66o : t66.Ok Tryz.prog := tabL_ok t68o ⟨k66, trivial⟩
def canX (s : Geo.Shape) : Geo.Shape := if Geo.validSP s = true then Geo.canonS s else ⟨[], []⟩
theorem holes_anti {s : Geo.Shape} (h : Geo.VS s) : ∀ a ∈ s.holes.map Geo.begin, ∀ b ∈ s.holes.map Geo.begin, Geo.leH a b → Geo.leH b a → a = b := by
  have hn := h.nodup
  unfold Geo.vertsS Geo.ringsS at hn
  rw [List.flatten_cons, List.nodup_append] at hn
  have hn2 : ((s.holes.map Geo.begin).flatten).Nodup := (Geo.flatten_map_begin s.holes).nodup_iff.2 hn.2.1
  have hne : ∀ r ∈ s.holes.map Geo.begin, nth r 0 ∈ r := by
    intro r hr
    obtain ⟨q, hq, rfl⟩ := List.mem_map.1 hr
    have h3 := (h.ring (show q ∈ Geo.ringsS s by simp [Geo.ringsS, hq])).three
    exact Geo.mem_nth.2 ⟨0, by rw [Geo.begin_length]; omega, rfl⟩
  intro a ha b hb h1 h2
  have e : nth a 0 = nth b 0 := Geo.leV_anti h1 h2
  exact Geo.flatten_unique _ hn2 a ha b hb (nth a 0) (hne a ha) (by rw [e]; exact hne b hb)
theorem canon_holes {s : Geo.Shape} (h : Geo.VS s) : s.holes.map Geo.canonR = s.holes.map Geo.begin := List.map_congr_left fun r hr => by
  unfold Geo.canonR; rw [(Geo.validP_iff r).2 (h.ring (by simp [Geo.ringsS, hr]))]; rfl
def c57 : Con := con (a1 aSh) (fun s => [Fit s]) (fun s => aSh.enc (canX s))
theorem k57 : c57.Ok Tryz.prog 57 := con_ok (cx_ok t66o) (raw := noRaw) (fun s => [(5, .mk Nat (fun F _ => natAt F 17) [15] (fun k => [k ≤ s.holes.length]) (fun k => [(17, .int .i64 (k : Int))]) (fun k => [(9, .box 26 [.lst .V (Geo.canonR s.outer), .own 15 .R k]), (15, .row 23 .R ((s.holes.take k).map Geo.canonR))]) (fun k => s.holes.length - k) (fun _ => []))]
  ) (fun _ => ⟨_, rfl⟩) fun s hp => by_vc (q := Fit s ∧ ((!Geo.validSP s) = true → (canX s).outer = ([] : List Geo.V) ∧ (canX s).holes = ([] : List (List Geo.V))) ∧
 ((!Geo.validSP s) = false → s.outer.length ≤ 1000 ∧ (0 = (0 : Int) ∧ Geo.canonR s.outer = Geo.canonR s.outer ∧ (0 : Nat) = 0 ∧ List.map Geo.canonR (List.take 0 s.holes) = ([] : List (List Geo.V)) ∧ (0 : Nat) ≤ s.holes.length) ∧
  (∀ x : Nat, x ≤ s.holes.length → ((x : Int) < s.holes.length → ix (x : Int) s.holes.length ∧ (nthR s.holes x).length ≤ 1000 ∧ x = (List.map Geo.canonR (List.take x s.holes)).length ∧ (List.map Geo.canonR (List.take x s.holes)).length + [Geo.canonR (nthR s.holes x)].length ≤ 1000000 ∧ in64 ((x : Int) + 1) ∧ (x : Int) + 1 = ((x + 1 : Nat) : Int) ∧ Geo.canonR s.outer = Geo.canonR s.outer ∧ (List.map Geo.canonR (List.take x s.holes) ++ [Geo.canonR (nthR s.holes x)]).length = x + 1 ∧ List.map Geo.canonR (List.take x s.holes) ++ [Geo.canonR (nthR s.holes x)] = List.map Geo.canonR (List.take (x + 1) s.holes) ∧ x + 1 ≤ s.holes.length ∧ s.holes.length - (x + 1) < s.holes.length - x) ∧
   (¬ (x : Int) < s.holes.length → x = (List.map Geo.canonR (List.take x s.holes)).length ∧ (List.map Geo.canonR (List.take x s.holes)).length ≤ 1000000 ∧ (∀ r : Geo.Ring, r ∈ List.map Geo.canonR (List.take x s.holes) → (0 : Nat) < r.length ∧ r.length ≤ 1000) ∧ (∀ a : Geo.Ring, a ∈ List.map Geo.canonR (List.take x s.holes) → (∀ b : Geo.Ring, b ∈ List.map Geo.canonR (List.take x s.holes) → Geo.leH a b → Geo.leH b a → a = b)) ∧ x = (r68 (List.map Geo.canonR (List.take x s.holes), false)).length ∧ Geo.canonR s.outer = (canX s).outer ∧ r68 (List.map Geo.canonR (List.take x s.holes), false) = (canX s).holes)))) (by kernel_rfl) (by
  change Fit s at hp
  have c0 : (!Geo.validSP s) = true → canX s = ⟨[], []⟩ := fun h => by unfold canX; rw [nb' h]; rfl
  have c1 : (!Geo.validSP s) = false → canX s = Geo.canonS s := fun h => by unfold canX; rw [nb h]; rfl
  have V : (!Geo.validSP s) = false → Geo.VS s := fun h => (Geo.validSP_iff s).1 (nb h)
  have hl : ∀ x : Nat, (x : Int) < s.holes.length → (nthR s.holes x).length ≤ 1000 := fun x h => hp.2.2 _ (Geo.nthR_mem (by omega))
  have hn := hp.2.1
  have ho := hp.1
  have e1 : ∀ x : Nat, x ≤ s.holes.length → (List.map Geo.canonR (List.take x s.holes)).length = x := fun x h => by rw [List.length_map, List.length_take]; omega
  have e2 : ∀ x : Nat, (x : Int) < s.holes.length → List.map Geo.canonR (List.take x s.holes) ++ [Geo.canonR (nthR s.holes x)] = List.map Geo.canonR (List.take (x + 1) s.holes) := fun x h => by
    rw [List.take_succ_eq_append_getElem (by omega), List.map_append, nthR_eq (by omega)]; rfl
  have e3 : ∀ x : Nat, ¬ (x : Int) < s.holes.length → List.take x s.holes = s.holes := fun x h => List.take_of_length_le (by omega)
  have g1 : (!Geo.validSP s) = false → ∀ x : Nat, ¬ (x : Int) < s.holes.length → ∀ r ∈ List.map Geo.canonR (List.take x s.holes), 0 < r.length ∧ r.length ≤ 1000 := fun h x hx r hr => by
    rw [e3 x hx, canon_holes (V h)] at hr
    obtain ⟨q, hq, rfl⟩ := List.mem_map.1 hr
    rw [Geo.begin_length]
    have h3 := ((V h).ring (show q ∈ Geo.ringsS s by simp [Geo.ringsS, hq])).three
    have := hp.2.2 q hq
    omega
  have g2 : (!Geo.validSP s) = false → ∀ x : Nat, ¬ (x : Int) < s.holes.length → ∀ a ∈ List.map Geo.canonR (List.take x s.holes), ∀ b ∈ List.map Geo.canonR (List.take x s.holes), Geo.leH a b → Geo.leH b a → a = b := fun h x hx => by
    rw [e3 x hx, canon_holes (V h)]; exact holes_anti (V h)
  have g3 : ∀ l, (r68 (l, false)).length = l.length := fun l => (Geo.sortH_perm l).length_eq
  have g4 : (!Geo.validSP s) = false → Geo.canonR s.outer = (canX s).outer := fun h => by
    rw [c1 h]; unfold Geo.canonR; rw [(Geo.validP_iff _).2 ((V h).ring (by simp [Geo.ringsS]))]; rfl
  have g5 : (!Geo.validSP s) = false → ∀ x : Nat, ¬ (x : Int) < s.holes.length → r68 (List.map Geo.canonR (List.take x s.holes), false) = (canX s).holes := fun h x hx => by
    rw [e3 x hx, canon_holes (V h), c1 h]; rfl
  have hf := hp
  clear hp
  repeat' first | with_reducible apply And.intro | with_reducible intro
  all_goals first | assumption | rfl | omega | (unfold ix; omega) | (unfold in64; omega) | (rw [c0 ‹_›]; done) | exact hl _ ‹_› | exact e2 _ ‹_› | exact (e1 _ ‹_›).symm | (rw [e1 _ ‹_›]; simp; omega) | (rw [e1 _ ‹_›]; omega) | (rw [List.length_append, e1 _ ‹_›]; simp; done) | exact (g1 ‹_› _ ‹_› _ ‹_›).1 | exact (g1 ‹_› _ ‹_› _ ‹_›).2 | exact g2 ‹_› _ ‹_› _ ‹_› _ ‹_› ‹_› ‹_› | (rw [g3, e1 _ ‹_›]; done) | exact g4 ‹_› | exact g5 ‹_› _ ‹_›)
def t57 : Tab := tabL [(57, c57)] t66
theorem t57o : t57.Ok Tryz.prog := tabL_ok t66o ⟨k57, trivial⟩
def c183 : Con := con (a1 aS) (fun s => [bd 1000000000 s.a, bd 1000000000 s.b]) (fun s => aT.enc (Geo.middleP s))
theorem k183 : c183.Ok Tryz.prog 183 := con_ok (cx_ok t57o) (raw := noRaw) (fun s => [jb 3 26 (decide ((s.a.x + s.b.x).tmod 2 = 0) && decide ((s.a.y + s.b.y).tmod 2 = 0))]
  ) (fun _ => ⟨_, rfl⟩) fun s hp => by_vc (q := in64 (s.a.x + s.b.x) ∧ in64 (s.a.y + s.b.y) ∧ ((2 : Int) ≠ 0 ∧ (Int.tmod (s.a.x + s.b.x) 2 = 0 → (2 : Int) ≠ 0 ∧ decide (Int.tmod (s.a.y + s.b.y) 2 = 0) = (decide (Int.tmod (s.a.x + s.b.x) 2 = 0) && decide (Int.tmod (s.a.y + s.b.y) 2 = 0))) ∧
  (¬ Int.tmod (s.a.x + s.b.x) 2 = 0 → false = (decide (Int.tmod (s.a.x + s.b.x) 2 = 0) && decide (Int.tmod (s.a.y + s.b.y) 2 = 0)))) ∧
 (∀ y : Unit, ((decide (Int.tmod (s.a.x + s.b.x) 2 = 0) && decide (Int.tmod (s.a.y + s.b.y) 2 = 0)) = true → (2 : Int) ≠ 0 ∧ in64 (Int.tdiv (s.a.x + s.b.x) 2) ∧ (2 : Int) ≠ 0 ∧ in64 (Int.tdiv (s.a.y + s.b.y) 2) ∧ Int.tdiv (s.a.x + s.b.x) 2 = (Geo.middleP s).x ∧ Int.tdiv (s.a.y + s.b.y) 2 = (Geo.middleP s).y ∧ 1 = (Geo.middleP s).den) ∧
  ((decide (Int.tmod (s.a.x + s.b.x) 2 = 0) && decide (Int.tmod (s.a.y + s.b.y) 2 = 0)) = false → s.a.x + s.b.x = (Geo.middleP s).x ∧ s.a.y + s.b.y = (Geo.middleP s).y ∧ 2 = (Geo.middleP s).den))) (by kernel_rfl) (by
  change bd 1000000000 s.a ∧ bd 1000000000 s.b at hp
  unfold bd at hp
  have k1 : in64 (s.a.x + s.b.x) := i64w (by omega)
  have k2 : in64 (s.a.y + s.b.y) := i64w (by omega)
  have q1 := tdivZ_bd (x := s.a.x + s.b.x) (g := 2) (B := 4000000000) (by omega)
  have q2 := tdivZ_bd (x := s.a.y + s.b.y) (g := 2) (B := 4000000000) (by omega)
  have k3 : in64 (Int.tdiv (s.a.x + s.b.x) 2) := i64w (by omega)
  have k4 : in64 (Int.tdiv (s.a.y + s.b.y) 2) := i64w (by omega)
  have m1 : (decide (Int.tmod (s.a.x + s.b.x) 2 = 0) && decide (Int.tmod (s.a.y + s.b.y) 2 = 0)) = true → Geo.middleP s = ⟨(s.a.x + s.b.x).tdiv 2, (s.a.y + s.b.y).tdiv 2, 1⟩ := fun h => by
    simp only [Bool.and_eq_true, decide_eq_true_eq] at h; exact if_pos h
  have m2 : (decide (Int.tmod (s.a.x + s.b.x) 2 = 0) && decide (Int.tmod (s.a.y + s.b.y) 2 = 0)) = false → Geo.middleP s = ⟨s.a.x + s.b.x, s.a.y + s.b.y, 2⟩ := fun h => if_neg fun h2 => by
    rw [decide_eq_true h2.1, decide_eq_true h2.2] at h; cases h
  clear hp q1 q2
  refine ⟨k1, k2, ⟨by decide, fun h => ⟨by decide, by rw [decide_eq_true h]; rfl⟩, fun h => by rw [decide_eq_false h]; rfl⟩, fun _ => ⟨fun h => ⟨by decide, k3, by decide, k4, ?_⟩, fun h => ?_⟩⟩
  · rw [m1 h]; exact ⟨rfl, rfl, rfl⟩
  · rw [m2 h]; exact ⟨rfl, rfl, rfl⟩)
def t183 : Tab := tabL [(183, c183)] t57
theorem t183o : t183.Ok Tryz.prog := tabL_ok t57o ⟨k183, trivial⟩
def c134 : Con := con (ac aS (a1 aS)) (fun (_, _) => []) (fun (s, t) => .bool (Geo.atEnds s t)
  )
theorem k134 : c134.Ok Tryz.prog 134 := con_ok (cx_ok t183o) (raw := noRaw) (fun (_, _) => []) (fun (_, _) => ⟨_, rfl⟩) fun (s, t) _ => by_vc (q := (Geo.meetP s t = 0 → true = Geo.atEnds s t) ∧
 (¬ Geo.meetP s t = 0 → (Geo.meetP s t = 1 → (s.a = t.a → true = Geo.atEnds s t) ∧
   (¬ s.a = t.a → (s.a = t.b → true = Geo.atEnds s t) ∧
    (¬ s.a = t.b → (s.b = t.a → true = Geo.atEnds s t) ∧
     (¬ s.b = t.a → decide (s.b = t.b) = Geo.atEnds s t)))) ∧
  (¬ Geo.meetP s t = 1 → false = Geo.atEnds s t))) (by kernel_rfl) (by
  have hd : ∀ a b : Geo.V, (a == b) = decide (a = b) := fun a b => by rw [Bool.eq_iff_iff]; simp
  unfold Geo.atEnds Geo.shares
  simp only [hd]
  repeat' first | with_reducible apply And.intro | with_reducible intro
  all_goals repeat with_reducible cases ‹_ ∧ _›
  all_goals simp [*])
def t134 : Tab := tabL [(134, c134)] t183
theorem t134o : t134.Ok Tryz.prog := tabL_ok t183o ⟨k134, trivial⟩
def aPS : Ar Geo.S where
  enc s := .pro [.int .i64 s.a.x, .int .i64 s.a.y, .int .i64 s.b.x, .int .i64 s.b.y] 0
  dec s := match s with
    | .pro [.int .i64 x, .int .i64 y, .int .i64 z, .int .i64 w] 0 => some ⟨⟨x, y⟩, ⟨z, w⟩⟩
    | _ => none
  ok s a h := by (split at h <;> cases h; rfl)
  pl _ := ⟨_, rfl⟩
def aC133 : Ar (Geo.S × Unit) := aCl 133 (ac aPS a0)
def c133 : Con := con (ac aS (a1 aPS)) (fun (_, _) => []) (fun (d, c) => .bool (!Geo.atEnds c d)
  )
theorem k133 : c133.Ok Tryz.prog 133 := con_ok (cx_ok t134o) (raw := noRaw) (fun (_, _) => []) (fun (_, _) => ⟨_, rfl⟩) fun (d, c) _ => by_vc (q := (!Geo.atEnds c d) = (!Geo.atEnds c d)) (by kernel_rfl) (by
  rfl)
def t133 : Tab := tabL [(133, c133)] t134
theorem t133o : t133.Ok Tryz.prog := tabL_ok t134o ⟨k133, trivial⟩
def c182 : Con := con (ac (aL .S) (a1 aC133)) (fun (l, _) => [l.length ≤ 1000000]) (fun (l, c) => .int .i64 (fI (fun d => !Geo.atEnds c.1 d) l))
theorem k182 : c182.Ok Tryz.prog 182 := con_ok (cx_ok t133o) (raw := noRaw) (fun (l, c) => [cnt 2 8 l.length (upto fun j => (!Geo.atEnds c.1 (nthS l j)) = false)]
  ) (fun (_, _) => ⟨_, rfl⟩) fun (l, c) hp => by_vc (q := (0 = (0 : Int) ∧ (0 : Nat) ≤ l.length ∧ upto (fun j => (!Geo.atEnds c.1 (nthS l j)) = false) 0) ∧
 (∀ x : Nat, x ≤ l.length ∧ upto (fun j => (!Geo.atEnds c.1 (nthS l j)) = false) x → ((x : Int) < l.length → ix (x : Int) l.length ∧ ((!Geo.atEnds c.1 (nthS l x)) = true → (x : Int) = fI (fun d => (!Geo.atEnds c.1 d)) l) ∧
   ((!Geo.atEnds c.1 (nthS l x)) = false → in64 ((x : Int) + 1) ∧ (x : Int) + 1 = ((x + 1 : Nat) : Int) ∧ x + 1 ≤ l.length ∧ upto (fun j => (!Geo.atEnds c.1 (nthS l j)) = false) (x + 1) ∧ l.length - (x + 1) < l.length - x)) ∧
  (¬ (x : Int) < l.length → -1 = fI (fun d => (!Geo.atEnds c.1 d)) l))) (by kernel_rfl) (by
  change l.length ≤ 1000000 at hp
  repeat' first | with_reducible apply And.intro | with_reducible intro
  all_goals repeat with_reducible cases ‹_ ∧ _›
  all_goals first | assumption | rfl | exact trivial | exact nb ‹_› | exact nb' ‹_› | omega | exact ix_mod (by omega) | (unfold ix; omega) | (unfold in64; omega) | exact upto_zero _ | exact upto_succ ‹_› ‹_› | (refine upto_succ ‹_› ?_; simp_all; done) | exact fI_at (t := .S) (by omega) ‹_› ‹_› | (obtain rfl : _ = l.length := Nat.le_antisymm ‹_› (by omega); exact fI_end (t := .S) ‹_›) | grind)
def t182 : Tab := tabL [(182, c182)] t133
theorem t182o : t182.Ok Tryz.prog := tabL_ok t133o ⟨k182, trivial⟩
def c132 : Con := con (ac (aL .S) (a1 aC133)) (fun (l, _) => [l.length ≤ 1000000]) (fun (l, c) => .bool (l.any fun d => !Geo.atEnds c.1 d)
  )
theorem k132 : c132.Ok Tryz.prog 132 := con_ok (cx_ok t182o) (raw := noRaw) (fun (_, _) => []) (fun (_, _) => ⟨_, rfl⟩) fun (l, c) hp => by_vc (q := l.length ≤ 1000000 ∧ decide (0 ≤ fI (fun d => (!Geo.atEnds c.1 d)) l) = List.any l (fun d => (!Geo.atEnds c.1 d))) (by kernel_rfl) (by
  change l.length ≤ 1000000 at hp
  exact ⟨hp, fI_any _ _⟩)
def t132 : Tab := tabL [(132, c132)] t182
theorem t132o : t132.Ok Tryz.prog := tabL_ok t182o ⟨k132, trivial⟩
def c135 : Con := con (ac aSh (ac (aL .S) (a1 aS))) (fun (s, l, c) => [Fit s, l.length ≤ 1000000, bd 1000000000 c.a, bd 1000000000 c.b]) (fun (s, l, c) => .bool ((l.all fun e => Geo.atEnds e c) && Geo.whereSP s (Geo.middleP c) == 2))
theorem k135 : c135.Ok Tryz.prog 135 := con_ok (cx_ok t132o) (raw := noRaw) (fun (_, l, c) => [cnt 2 11 l.length (upto fun j => Geo.atEnds (nthS l j) c = true)]
  ) (fun (_, _, _) => ⟨_, rfl⟩) fun (s, l, c) hp => by_vc (q := (0 = (0 : Int) ∧ (0 : Nat) ≤ l.length ∧ upto (fun j => Geo.atEnds (nthS l j) c = true) 0) ∧
 (∀ x : Nat, x ≤ l.length ∧ upto (fun j => Geo.atEnds (nthS l j) c = true) x → ((x : Int) < l.length → ix (x : Int) l.length ∧ ((!Geo.atEnds (nthS l x) c) = true → false = (List.all l (fun e => Geo.atEnds e c) && Geo.whereSP s (Geo.middleP c) == 2)) ∧
   ((!Geo.atEnds (nthS l x) c) = false → in64 ((x : Int) + 1) ∧ (x : Int) + 1 = ((x + 1 : Nat) : Int) ∧ x + 1 ≤ l.length ∧ upto (fun j => Geo.atEnds (nthS l j) c = true) (x + 1) ∧ l.length - (x + 1) < l.length - x)) ∧
  (¬ (x : Int) < l.length → bd 1000000000 c.a ∧ bd 1000000000 c.b ∧ Fit s ∧ decide (Geo.whereSP s (Geo.middleP c) = 2) = (List.all l (fun e => Geo.atEnds e c) && Geo.whereSP s (Geo.middleP c) == 2)))) (by kernel_rfl) (by
  change Fit s ∧ l.length ≤ 1000000 ∧ bd 1000000000 c.a ∧ bd 1000000000 c.b at hp
  have n1 : ∀ x : Nat, (x : Int) < l.length → (!Geo.atEnds (nthS l x) c) = true → false = (List.all l (fun e => Geo.atEnds e c) && Geo.whereSP s (Geo.middleP c) == 2) := fun x h1 h2 => by
    rw [all_no (t := .S) (l := l) (q := fun e => Geo.atEnds e c) (j := x) (by omega) (nb' h2)]; rfl
  have n2 : ∀ x : Nat, ¬ (x : Int) < l.length → x ≤ l.length → upto (fun j => Geo.atEnds (nthS l j) c = true) x → decide (Geo.whereSP s (Geo.middleP c) = 2) = (List.all l (fun e => Geo.atEnds e c) && Geo.whereSP s (Geo.middleP c) == 2) := fun x h1 h2 h3 => by
    obtain rfl : x = l.length := by omega
    rw [all_yes (t := .S) (l := l) (q := fun e => Geo.atEnds e c) h3, Bool.true_and, Bool.eq_iff_iff]; simp
  obtain ⟨hf, hll, hb1, hb2⟩ := hp
  repeat' first | with_reducible apply And.intro | with_reducible intro
  all_goals repeat with_reducible cases ‹_ ∧ upto _ _›
  all_goals first | assumption | rfl | omega | (unfold ix; omega) | (unfold in64; omega) | exact upto_zero _ | exact n1 _ ‹_› ‹_› | exact n2 _ ‹_› ‹_› ‹_› | exact upto_succ ‹_› (nb ‹_›))
def t135 : Tab := tabL [(135, c135)] t132
theorem t135o : t135.Ok Tryz.prog := tabL_ok t132o ⟨k135, trivial⟩
def pK (s : Geo.Shape) (v : List Geo.V) (i k : Nat) : List (Nat × Nat) := Geo.rowP s v (Geo.pairsUp s v i) i (k - (i + 1))
def tkB (s : Geo.Shape) (v : List Geo.V) (i k : Nat) : Bool := !((pK s v i k).any fun d => !(Geo.atEnds ⟨nth v i, nth v k⟩ (Geo.segV v d))) && Geo.chordP s ⟨nth v i, nth v k⟩
section
variable {s : Geo.Shape} {v : List Geo.V} {i k : Nat}
theorem pK_zero : pK s v i (i + 1) = Geo.pairsUp s v i := by unfold pK; rw [Nat.sub_self]; rfl
theorem pK_succ (h : i < k) : pK s v i (k + 1) = if tkB s v i k = true then pK s v i k ++ [(i, k)] else pK s v i k := by
  unfold tkB pK
  rw [show k + 1 - (i + 1) = (k - (i + 1)) + 1 by omega]
  show Geo.stepP s v _ i (i + 1 + (k - (i + 1))) = _
  rw [show i + 1 + (k - (i + 1)) = k by omega]; rfl
theorem pK_end (h : ¬ (k : Int) < v.length) (h2 : k ≤ v.length) : pK s v i k = Geo.pairsUp s v (i + 1) := by
  obtain rfl : k = v.length := by omega
  rfl
theorem rowP_len (acc : List (Nat × Nat)) : ∀ m, (Geo.rowP s v acc i m).length ≤ acc.length + m
  | 0 => Nat.le_refl _
  | m + 1 => by
    have := rowP_len acc m
    unfold Geo.rowP Geo.stepP
    split
    · rw [List.length_append]; simp only [List.length_cons, List.length_nil]; omega
    · omega
theorem pairsUp_len : ∀ i, (Geo.pairsUp s v i).length ≤ i * v.length
  | 0 => by simp [Geo.pairsUp]
  | i + 1 => by
    have h1 := pairsUp_len i
    have h2 := rowP_len (s := s) (v := v) (i := i) (Geo.pairsUp s v i) (v.length - (i + 1))
    unfold Geo.pairsUp
    rw [Nat.add_mul]; omega
theorem pK_len (hv : v.length ≤ 900) (hi : i ≤ v.length) (hk : k ≤ v.length) : (pK s v i k).length ≤ 820000 := by
  have h1 := pairsUp_len (s := s) (v := v) i
  have h2 := rowP_len (s := s) (v := v) (i := i) (Geo.pairsUp s v i) (k - (i + 1))
  have h3 : i * v.length ≤ 900 * 900 := Nat.mul_le_mul (by omega) hv
  unfold pK; omega
end
def c60 : Con := con (ac aSh (a1 (aL .V))) (fun (s, v) => [Fit s, v.length ≤ 900, (∀ x ∈ v, bd 1000000000 x), (edgesS s).length ≤ 1000000]) (fun (s, v) => .lst .P (Geo.pairsP s v))
set_option maxHeartbeats 1000000 in
theorem k60 : c60.Ok Tryz.prog 60 := con_ok (cx_ok t135o) (raw := noRaw) (fun (s, v) => [(5, .mk Nat (fun F _ => natAt F 16) [10, 11] (fun i => [i ≤ v.length]) (fun i => [(16, .int .i64 (i : Int)), (6, .own 10 .P (Geo.pairsUp s v i).length), (7, .own 11 .S (Geo.pairsUp s v i).length)]) (fun i => [(10, .row 67 .P (Geo.pairsUp s v i)), (11, .row 46 .S ((Geo.pairsUp s v i).map (Geo.segV v)))]) (fun i => v.length - i) fun i =>
  [(8, .mk Nat (fun F _ => natAt F 9) [10, 11] (fun k => [i < k, k ≤ v.length]) (fun k => [(9, .int .i64 (k : Int)), (6, .own 10 .P (pK s v i k).length), (7, .own 11 .S (pK s v i k).length)]) (fun k => [(10, .row 67 .P (pK s v i k)), (11, .row 46 .S ((pK s v i k).map (Geo.segV v)))]) (fun k => v.length - k) fun k => [jb 13 46 (tkB s v i k)])])]
  ) (fun (_, _) => ⟨_, rfl⟩) fun (s, v) hp => by_vc (q := Fit s ∧ (0 = (0 : Int) ∧ (Geo.pairsUp s v 0).length = 0 ∧ (Geo.pairsUp s v 0).length = 0 ∧ Geo.pairsUp s v 0 = ([] : List (Prod Nat Nat)) ∧ List.map (Geo.segV v) (Geo.pairsUp s v 0) = ([] : List Geo.S) ∧ (0 : Nat) ≤ v.length) ∧
 (∀ x : Nat, x ≤ v.length → ((x : Int) < v.length → in64 ((x : Int) + 1) ∧ ((x : Int) + 1 = ((x + 1 : Nat) : Int) ∧ (Geo.pairsUp s v x).length = (pK s v x (x + 1)).length ∧ (Geo.pairsUp s v x).length = (pK s v x (x + 1)).length ∧ Geo.pairsUp s v x = pK s v x (x + 1) ∧ List.map (Geo.segV v) (Geo.pairsUp s v x) = List.map (Geo.segV v) (pK s v x (x + 1)) ∧ x < x + 1 ∧ x + 1 ≤ v.length) ∧
   (∀ x_1 : Nat, x < x_1 ∧ x_1 ≤ v.length → ((x_1 : Int) < v.length → ix (x : Int) v.length ∧ ix (x_1 : Int) v.length ∧ (pK s v x x_1).length = (List.map (Geo.segV v) (pK s v x x_1)).length ∧ (List.map (Geo.segV v) (pK s v x x_1)).length ≤ 1000000 ∧ (((!List.any (List.map (Geo.segV v) (pK s v x x_1)) (fun d => (!Geo.atEnds (⟨(nth v x), (nth v x_1)⟩ : Geo.S) d))) = true → Fit s ∧ (edgesS s).length ≤ 1000000 ∧ bd 1000000000 (⟨(nth v x), (nth v x_1)⟩ : Geo.S).a ∧ bd 1000000000 (⟨(nth v x), (nth v x_1)⟩ : Geo.S).b ∧ (List.all (edgesS s) (fun e => Geo.atEnds e (⟨(nth v x), (nth v x_1)⟩ : Geo.S)) && Geo.whereSP s (Geo.middleP (⟨(nth v x), (nth v x_1)⟩ : Geo.S)) == 2) = tkB s v x x_1) ∧
      ((!List.any (List.map (Geo.segV v) (pK s v x x_1)) (fun d => (!Geo.atEnds (⟨(nth v x), (nth v x_1)⟩ : Geo.S) d))) = false → false = tkB s v x x_1)) ∧
     (∀ y : Unit, (tkB s v x x_1 = true → (pK s v x x_1).length = (List.map (Geo.segV v) (pK s v x x_1)).length ∧ (List.map (Geo.segV v) (pK s v x x_1)).length + [(⟨(nth v x), (nth v x_1)⟩ : Geo.S)].length ≤ 1000000 ∧ (pK s v x x_1).length = (pK s v x x_1).length ∧ (pK s v x x_1).length + [(x, x_1)].length ≤ 1000000 ∧ in64 ((x_1 : Int) + 1) ∧ (x_1 : Int) + 1 = ((x_1 + 1 : Nat) : Int) ∧ (pK s v x x_1 ++ [(x, x_1)]).length = (pK s v x (x_1 + 1)).length ∧ (List.map (Geo.segV v) (pK s v x x_1) ++ [(⟨(nth v x), (nth v x_1)⟩ : Geo.S)]).length = (pK s v x (x_1 + 1)).length ∧ pK s v x x_1 ++ [(x, x_1)] = pK s v x (x_1 + 1) ∧ List.map (Geo.segV v) (pK s v x x_1) ++ [(⟨(nth v x), (nth v x_1)⟩ : Geo.S)] = List.map (Geo.segV v) (pK s v x (x_1 + 1)) ∧ x < x_1 + 1 ∧ x_1 + 1 ≤ v.length ∧ v.length - (x_1 + 1) < v.length - x_1) ∧
      (tkB s v x x_1 = false → in64 ((x_1 : Int) + 1) ∧ (x_1 : Int) + 1 = ((x_1 + 1 : Nat) : Int) ∧ (pK s v x x_1).length = (pK s v x (x_1 + 1)).length ∧ (pK s v x x_1).length = (pK s v x (x_1 + 1)).length ∧ pK s v x x_1 = pK s v x (x_1 + 1) ∧ List.map (Geo.segV v) (pK s v x x_1) = List.map (Geo.segV v) (pK s v x (x_1 + 1)) ∧ x < x_1 + 1 ∧ x_1 + 1 ≤ v.length ∧ v.length - (x_1 + 1) < v.length - x_1))) ∧
    (¬ (x_1 : Int) < v.length → in64 ((x : Int) + 1) ∧ (x : Int) + 1 = ((x + 1 : Nat) : Int) ∧ (pK s v x x_1).length = (Geo.pairsUp s v (x + 1)).length ∧ (pK s v x x_1).length = (Geo.pairsUp s v (x + 1)).length ∧ pK s v x x_1 = Geo.pairsUp s v (x + 1) ∧ List.map (Geo.segV v) (pK s v x x_1) = List.map (Geo.segV v) (Geo.pairsUp s v (x + 1)) ∧ x + 1 ≤ v.length ∧ v.length - (x + 1) < v.length - x))) ∧
  (¬ (x : Int) < v.length → (Geo.pairsUp s v x).length = (Geo.pairsUp s v x).length ∧ Geo.pairsUp s v x = Geo.pairsP s v))) (by kernel_rfl) (by
  change Fit s ∧ v.length ≤ 900 ∧ ((∀ x ∈ v, bd 1000000000 x)) ∧ (edgesS s).length ≤ 1000000 at hp
  obtain ⟨hf, hv, hb, he⟩ := hp
  have hb : ∀ x : Nat, (x : Int) < v.length → bd 1000000000 (nth v x) := fun x h => hb _ (Geo.nth_mem (by omega))
  have hL : ∀ i k : Nat, (i : Int) < v.length → k ≤ v.length → (pK s v i k).length ≤ 820000 := fun i k h1 h2 => pK_len hv (by omega) h2
  have z := fun i => @pK_zero s v i
  have sY : ∀ i k : Nat, i < k → tkB s v i k = true → pK s v i k ++ [(i, k)] = pK s v i (k + 1) := fun i k h h2 => by rw [pK_succ h, if_pos h2]
  have sN : ∀ i k : Nat, i < k → tkB s v i k = false → pK s v i k = pK s v i (k + 1) := fun i k h h2 => by rw [pK_succ h, if_neg (by rw [h2]; simp)]
  have sM : ∀ i k : Nat, i < k → tkB s v i k = true → (pK s v i k).map (Geo.segV v) ++ [⟨nth v i, nth v k⟩] = (pK s v i (k + 1)).map (Geo.segV v) := fun i k h h2 => by rw [← sY i k h h2, List.map_append]; rfl
  have pE := fun (i k : Nat) (h : ¬ (k : Int) < v.length) (h2 : k ≤ v.length) => @pK_end s v i k h h2
  have uE : ∀ i : Nat, ¬ (i : Int) < v.length → i ≤ v.length → Geo.pairsUp s v i = Geo.pairsP s v := fun i h1 h2 => by rw [show i = v.length by omega]; rfl
  have tA : ∀ i k : Nat, (List.map (Geo.segV v) (pK s v i k)).any (fun d => !Geo.atEnds ⟨nth v i, nth v k⟩ d) = (pK s v i k).any (fun d => !Geo.atEnds ⟨nth v i, nth v k⟩ (Geo.segV v d)) := fun i k => by rw [List.any_map]; rfl
  have tY : ∀ i k : Nat, (!(List.map (Geo.segV v) (pK s v i k)).any (fun d => !Geo.atEnds ⟨nth v i, nth v k⟩ d)) = true → ((edgesS s).all (fun e => Geo.atEnds e ⟨nth v i, nth v k⟩) && Geo.whereSP s (Geo.middleP ⟨nth v i, nth v k⟩) == 2) = tkB s v i k := fun i k h => by
    unfold tkB; rw [← tA, h]; rfl
  have tN : ∀ i k : Nat, (!(List.map (Geo.segV v) (pK s v i k)).any (fun d => !Geo.atEnds ⟨nth v i, nth v k⟩ d)) = false → false = tkB s v i k := fun i k h => by
    unfold tkB; rw [← tA, h]; rfl
  repeat' first | with_reducible apply And.intro | with_reducible intro
  all_goals repeat with_reducible cases ‹_ < _ ∧ _›
  all_goals first | assumption | rfl | omega | (unfold ix; omega) | (unfold in64; omega) | exact hb _ ‹_› | exact tY _ _ ‹_› | exact tN _ _ ‹_› | (rw [z]; done) | (rw [List.length_map]; done) | (rw [List.length_map]; exact Nat.le_trans (hL _ _ ‹_› ‹_›) (by decide)) | (rw [List.length_map]; exact Nat.le_trans (Nat.add_le_add_right (hL _ _ ‹_› ‹_›) 1) (by decide)) | exact Nat.le_trans (Nat.add_le_add_right (hL _ _ ‹_› ‹_›) 1) (by decide) | exact sY _ _ ‹_› ‹_› | exact sM _ _ ‹_› ‹_› | exact sN _ _ ‹_› ‹_› | exact congrArg List.length (sN _ _ ‹_› ‹_›) | exact congrArg (List.map (Geo.segV v)) (sN _ _ ‹_› ‹_›) | exact congrArg List.length (sY _ _ ‹_› ‹_›) | (rw [sM _ _ ‹_› ‹_›, List.length_map]; done) | exact pE _ _ ‹_› ‹_› | exact congrArg List.length (pE _ _ ‹_› ‹_›) | exact congrArg (List.map (Geo.segV v)) (pE _ _ ‹_› ‹_›) | exact uE _ ‹_› ‹_›)
def t60 : Tab := tabL [(60, c60)] t135
theorem t60o : t60.Ok Tryz.prog := tabL_ok t135o ⟨k60, trivial⟩
end
end Go.Proofs.YtdaeofhdgabhjaaGreat
namespace Go.Proofs.YtdaeofhdgabhjaaGreat
open Go.RowKit
set_option maxRecDepth 100000
noncomputable section
open Geo (edgesS nth nthR)
theorem rowP_mem {s : Geo.Shape} {v : List Geo.V} {acc : List (Nat × Nat)} {i : Nat} : ∀ {m : Nat} {p : Nat × Nat}, p ∈ Geo.rowP s v acc i m → p ∈ acc ∨ (p.1 = i ∧ i < p.2 ∧ p.2 < i + 1 + m)
  | 0, p, h => .inl h
  | m + 1, p, h => by
    unfold Geo.rowP Geo.stepP at h
    split at h
    · rcases List.mem_append.1 h with h | h
      · rcases rowP_mem h with h | ⟨h1, h2, h3⟩
        · exact .inl h
        · exact .inr ⟨h1, h2, by omega⟩
      · simp at h; subst h; exact .inr ⟨rfl, by show i < i + 1 + m; omega, by show i + 1 + m < _; omega⟩
    · rcases rowP_mem h with h | ⟨h1, h2, h3⟩
      · exact .inl h
      · exact .inr ⟨h1, h2, by omega⟩
theorem pairsUp_mem {s : Geo.Shape} {v : List Geo.V} : ∀ {i : Nat} {p : Nat × Nat}, i ≤ v.length → p ∈ Geo.pairsUp s v i → p.1 < p.2 ∧ p.2 < v.length
  | 0, p, _, h => by simp [Geo.pairsUp] at h
  | i + 1, p, hi, h => by
    unfold Geo.pairsUp at h
    rcases rowP_mem h with h | ⟨h1, h2, h3⟩
    · exact pairsUp_mem (by omega) h
    · omega
theorem pairsP_mem {s : Geo.Shape} {v : List Geo.V} {p : Nat × Nat} (h : p ∈ Geo.pairsP s v) : p.1 < p.2 ∧ p.2 < v.length := pairsUp_mem (Nat.le_refl _) h
theorem edgesLen_le (r : Geo.Ring) : (Geo.edges r).length ≤ r.length := by
  unfold Geo.edges; split <;> simp
theorem flat_edgesLen_le : ∀ l : List Geo.Ring, (l.flatMap Geo.edges).length ≤ (l.map List.length).sum
  | [] => by simp
  | r :: l => by
    have := flat_edgesLen_le l
    have := edgesLen_le r
    rw [List.flatMap_cons, List.length_append, List.map_cons, List.sum_cons]
    omega
theorem vs_edgesLen {s : Geo.Shape} (h : Geo.VS s) : (edgesS s).length ≤ 80 := by
  have h1 := flat_edgesLen_le (Geo.ringsS s)
  have h2 := h.corners
  unfold Geo.cornersS at h2
  unfold edgesS
  omega
theorem canon_hole {s : Geo.Shape} (h : Geo.VS s) {r : Geo.Ring} (hr : r ∈ (Geo.canonS s).holes) : 3 ≤ r.length ∧ r.length ≤ 40 := by
  unfold Geo.canonS at hr
  have hr := (Geo.sortH_perm _).subset hr
  obtain ⟨q, hq, rfl⟩ := List.mem_map.1 hr
  have hv := h.ring (r := q) (by unfold Geo.ringsS; exact List.mem_cons_of_mem _ hq)
  rw [Geo.begin_length]
  exact ⟨hv.three, hv.most⟩
theorem canon_pos {s : Geo.Shape} (V : Geo.VS s) : 0 < (Geo.canonS s).outer.length ∧ ∀ r ∈ (Geo.canonS s).holes, 0 < r.length :=
  ⟨by have h := V.outer.three; show 0 < (Geo.begin s.outer).length; rw [Geo.begin_length]; omega, fun r hr => by have := canon_hole V hr; omega⟩
def c17 : Con := con (a1 aSh) (fun s => [Fit s]) (fun s => .tup [.lst .V (vOf s), .int .i64 (eOf s)])
theorem k17 : c17.Ok Tryz.prog 17 := con_ok (cx_ok t60o) (raw := noRaw) (fun s => [(5, .mk Nat (fun F _ => natAt F 14) [12] (fun k => [k ≤ (Geo.ringsS (canX s)).length]) (fun k => [(14, .int .i64 (k : Int)), (4, .own 12 .V ((Geo.ringsS (canX s)).take k).flatten.length)]) (fun k => [(12, .row 44 .V ((Geo.ringsS (canX s)).take k).flatten)]) (fun k => (Geo.ringsS (canX s)).length - k) (fun _ => []))]
  ) (fun _ => ⟨_, rfl⟩) fun s hp => by_vc (q := Fit s ∧ ((!Geo.validSP s) = true → vOf s = ([] : List Geo.V) ∧ 11 = eOf s) ∧
 ((!Geo.validSP s) = false → Fit s ∧ Fit (canX s) ∧ (0 : Nat) < (canX s).outer.length ∧ (∀ r : Geo.Ring, r ∈ (canX s).holes → (0 : Nat) < r.length) ∧ (0 = (0 : Int) ∧ (List.flatten (List.take 0 (Geo.ringsS (canX s)))).length = 0 ∧ List.flatten (List.take 0 (Geo.ringsS (canX s))) = ([] : List Geo.V) ∧ (0 : Nat) ≤ (Geo.ringsS (canX s)).length) ∧
  (∀ x : Nat, x ≤ (Geo.ringsS (canX s)).length → ((x : Int) < (Geo.ringsS (canX s)).length → ix (x : Int) (Geo.ringsS (canX s)).length ∧ (List.flatten (List.take x (Geo.ringsS (canX s)))).length = (List.flatten (List.take x (Geo.ringsS (canX s)))).length ∧ (List.flatten (List.take x (Geo.ringsS (canX s)))).length + (nthR (Geo.ringsS (canX s)) x).length ≤ 1000000 ∧ in64 ((x : Int) + 1) ∧ (x : Int) + 1 = ((x + 1 : Nat) : Int) ∧ (List.flatten (List.take x (Geo.ringsS (canX s))) ++ nthR (Geo.ringsS (canX s)) x).length = (List.flatten (List.take (x + 1) (Geo.ringsS (canX s)))).length ∧ List.flatten (List.take x (Geo.ringsS (canX s))) ++ nthR (Geo.ringsS (canX s)) x = List.flatten (List.take (x + 1) (Geo.ringsS (canX s))) ∧ x + 1 ≤ (Geo.ringsS (canX s)).length ∧ (Geo.ringsS (canX s)).length - (x + 1) < (Geo.ringsS (canX s)).length - x) ∧
   (¬ (x : Int) < (Geo.ringsS (canX s)).length → (List.flatten (List.take x (Geo.ringsS (canX s)))).length = (List.flatten (List.take x (Geo.ringsS (canX s)))).length ∧ List.flatten (List.take x (Geo.ringsS (canX s))) = vOf s ∧ 0 = eOf s)))) (by kernel_rfl) (by
  change Fit s at hp
  have hq := Geo.validS_eq s
  have v0 : (!Geo.validSP s) = true → vOf s = [] := fun h => by unfold vOf; rw [← hq, nb' h]; rfl
  have v1 : (!Geo.validSP s) = true → 11 = eOf s := fun h => by unfold eOf; rw [← hq, nb' h]; rfl
  have v2 : (!Geo.validSP s) = false → 0 = eOf s := fun h => by unfold eOf; rw [← hq, nb h]; rfl
  have c1 : (!Geo.validSP s) = false → canX s = Geo.canonS s := fun h => by unfold canX; rw [nb h]; rfl
  have V : (!Geo.validSP s) = false → Geo.VS s := fun h => (Geo.validSP_iff s).1 (nb h)
  have f1 : (!Geo.validSP s) = false → Fit (canX s) := fun h => by rw [c1 h]; exact fit_canon hp
  have f2 : (!Geo.validSP s) = false → 0 < (canX s).outer.length := fun h => by rw [c1 h]; exact (canon_pos (V h)).1
  have f3 : (!Geo.validSP s) = false → ∀ r ∈ (canX s).holes, 0 < r.length := fun h => by rw [c1 h]; exact (canon_pos (V h)).2
  have f4 : (!Geo.validSP s) = false → (Geo.ringsS (canX s)).flatten.length ≤ 80 := fun h => by rw [c1 h]; exact vs_verts (V h)
  have f5 : (!Geo.validSP s) = false → (Geo.ringsS (canX s)).flatten = vOf s := fun h => by rw [c1 h]; unfold vOf; rw [← hq, nb h]; rfl
  have f6 : (!Geo.validSP s) = false → (Geo.ringsS (canX s)).length ≤ 1000 := fun h => by have := (f1 h).2.1; unfold Geo.ringsS; rw [List.length_cons]; omega
  generalize Geo.ringsS (canX s) = L at f4 f5 f6 ⊢
  have e1 : ∀ x : Nat, (x : Int) < L.length → (L.take x).flatten ++ nthR L x = (L.take (x + 1)).flatten := fun x h => by
    rw [List.take_succ_eq_append_getElem (by omega), List.flatten_append, List.flatten_singleton, nthR_eq (by omega)]
  have e2 : ∀ x : Nat, (L.take x).flatten.length ≤ L.flatten.length := fun x => by
    conv => rhs; rw [← List.take_append_drop x L, List.flatten_append, List.length_append]
    omega
  have e4 : (!Geo.validSP s) = false → ∀ x : Nat, (x : Int) < L.length → (L.take x).flatten.length + (nthR L x).length ≤ 1000000 := fun h x hx => by
    have h1 := e2 (x + 1); rw [← e1 x hx, List.length_append] at h1; have := f4 h; omega
  have e5 : (!Geo.validSP s) = false → ∀ x : Nat, ¬ (x : Int) < L.length → (L.take x).flatten = vOf s := fun h x hx => by rw [List.take_of_length_le (by omega), f5 h]
  have e6 : (!Geo.validSP s) = false → ∀ x : Nat, x ≤ L.length → in64 ((x : Int) + 1) := fun h x hx => i64w (by have := f6 h; omega)
  clear e2 c1 V
  repeat' first | with_reducible apply And.intro | with_reducible intro
  all_goals first | assumption | rfl | omega | exact v0 ‹_› | exact v1 ‹_› | exact v2 ‹_› | exact f1 ‹_› | exact f2 ‹_› | exact f3 ‹_› _ ‹_› | (unfold ix; omega) | exact e4 ‹_› _ ‹_› | exact e6 ‹_› _ ‹_› | exact e1 _ ‹_› | exact congrArg List.length (e1 _ ‹_›) | exact e5 ‹_› _ ‹_›)
def t17 : Tab := tabL [(17, c17)] t60
theorem t17o : t17.Ok Tryz.prog := tabL_ok t60o ⟨k17, trivial⟩
def c19 : Con := con (a1 aSh) (fun s => [Fit s]) (fun s => .tup [.lst .S (dOf s), .int .i64 (eOf s)])
theorem k19 : c19.Ok Tryz.prog 19 := con_ok (cx_ok t17o) (raw := noRaw) (fun s => [(6, .mk Nat (fun F _ => natAt F 21) [16] (fun k => [k ≤ (Geo.pairsP s (vOf s)).length]) (fun k => [(21, .int .i64 (k : Int)), (6, .own 16 .S k)]) (fun k => [(16, .row 46 .S (((Geo.pairsP s (vOf s)).map (Geo.segV (vOf s))).take k))]) (fun k => (Geo.pairsP s (vOf s)).length - k) (fun _ => []))]
  ) (fun _ => ⟨_, rfl⟩) fun s hp => by_vc (q := Fit s ∧ (¬ eOf s = 0 → dOf s = ([] : List Geo.S) ∧ eOf s = eOf s) ∧
 (¬ (¬ eOf s = 0) → Fit s ∧ (vOf s).length ≤ 900 ∧ (∀ x : Geo.V, x ∈ vOf s → bd 1000000000 x) ∧ (edgesS s).length ≤ 1000000 ∧ (0 = (0 : Int) ∧ (0 : Nat) = 0 ∧ List.take 0 (List.map (Geo.segV (vOf s)) (Geo.pairsP s (vOf s))) = ([] : List Geo.S) ∧ (0 : Nat) ≤ (Geo.pairsP s (vOf s)).length) ∧
  (∀ x : Nat, x ≤ (Geo.pairsP s (vOf s)).length → ((x : Int) < (Geo.pairsP s (vOf s)).length → ix (x : Int) (Geo.pairsP s (vOf s)).length ∧ ix 0 2 ∧ ix ((nthP (Geo.pairsP s (vOf s)) x).1 : Int) (vOf s).length ∧ ix 1 2 ∧ ix ((nthP (Geo.pairsP s (vOf s)) x).2 : Int) (vOf s).length ∧ x = (List.take x (List.map (Geo.segV (vOf s)) (Geo.pairsP s (vOf s)))).length ∧ (List.take x (List.map (Geo.segV (vOf s)) (Geo.pairsP s (vOf s)))).length + [(⟨(nth (vOf s) (nthP (Geo.pairsP s (vOf s)) x).1), (nth (vOf s) (nthP (Geo.pairsP s (vOf s)) x).2)⟩ : Geo.S)].length ≤ 1000000 ∧ in64 ((x : Int) + 1) ∧ (x : Int) + 1 = ((x + 1 : Nat) : Int) ∧ (List.take x (List.map (Geo.segV (vOf s)) (Geo.pairsP s (vOf s))) ++ [(⟨(nth (vOf s) (nthP (Geo.pairsP s (vOf s)) x).1), (nth (vOf s) (nthP (Geo.pairsP s (vOf s)) x).2)⟩ : Geo.S)]).length = x + 1 ∧ List.take x (List.map (Geo.segV (vOf s)) (Geo.pairsP s (vOf s))) ++ [(⟨(nth (vOf s) (nthP (Geo.pairsP s (vOf s)) x).1), (nth (vOf s) (nthP (Geo.pairsP s (vOf s)) x).2)⟩ : Geo.S)] = List.take (x + 1) (List.map (Geo.segV (vOf s)) (Geo.pairsP s (vOf s))) ∧ x + 1 ≤ (Geo.pairsP s (vOf s)).length ∧ (Geo.pairsP s (vOf s)).length - (x + 1) < (Geo.pairsP s (vOf s)).length - x) ∧
   (¬ (x : Int) < (Geo.pairsP s (vOf s)).length → x = (List.take x (List.map (Geo.segV (vOf s)) (Geo.pairsP s (vOf s)))).length ∧ List.take x (List.map (Geo.segV (vOf s)) (Geo.pairsP s (vOf s))) = dOf s ∧ 0 = eOf s)))) (by kernel_rfl) (by
  change Fit s at hp
  have hq := Geo.validS_eq s
  have d0 : ¬ eOf s = 0 → dOf s = [] := fun h => (eOf_no h).1
  have R : ¬ ¬ eOf s = 0 → Geo.validSR s = true := fun h => eOf_yes h
  have V : ¬ ¬ eOf s = 0 → Geo.VS s := fun h => vsR (R h)
  have hvl := vOf_le s
  have hvb : ∀ x ∈ vOf s, bd 1000000000 x := fun x hx => by
    obtain ⟨i, hi, rfl⟩ := Geo.mem_nth.1 hx
    exact vOf_bd hi (by decide)
  have he : ¬ ¬ eOf s = 0 → (edgesS s).length ≤ 1000000 := fun h => by have := vs_edgesLen (V h); omega
  have dE : ¬ ¬ eOf s = 0 → (Geo.pairsP s (vOf s)).map (Geo.segV (vOf s)) = dOf s := fun h => by
    rw [dOf_yes (R h)]
    rw [vOf_yes (R h)]
    exact (Geo.diag_eq (V h) (fun x hx => (Geo.canon_verts s).subset hx) ((Geo.canon_verts s).nodup_iff.2 (V h).nodup)).1
  have pL : (Geo.pairsP s (vOf s)).length ≤ 6400 := by
    have := pairsUp_len (s := s) (v := vOf s) (vOf s).length
    have h2 : (vOf s).length * (vOf s).length ≤ 80 * 80 := Nat.mul_le_mul hvl hvl
    unfold Geo.pairsP; omega
  have pM : ∀ p ∈ Geo.pairsP s (vOf s), p.1 < p.2 ∧ p.2 < (vOf s).length := fun p hp => pairsP_mem hp
  generalize Geo.pairsP s (vOf s) = P at dE pL pM ⊢
  have pA : ∀ x : Nat, (x : Int) < P.length → (nthP P x).1 < (vOf s).length ∧ (nthP P x).2 < (vOf s).length := fun x h => by
    have h2 : nthP P x ∈ P := by rw [nthP_eq (by omega)]; exact List.getElem_mem _
    have := pM _ h2; omega
  have p1 : ∀ x : Nat, (x : Int) < P.length → ix ((nthP P x).1 : Int) (vOf s).length := fun x h => ix_nat (pA x h).1
  have p2 : ∀ x : Nat, (x : Int) < P.length → ix ((nthP P x).2 : Int) (vOf s).length := fun x h => ix_nat (pA x h).2
  have e1 : ∀ x : Nat, x ≤ P.length → (List.take x (P.map (Geo.segV (vOf s)))).length = x := fun x h => by rw [List.length_take, List.length_map]; omega
  have e2 : ∀ x : Nat, (x : Int) < P.length → List.take x (P.map (Geo.segV (vOf s))) ++ [⟨nth (vOf s) (nthP P x).1, nth (vOf s) (nthP P x).2⟩] = List.take (x + 1) (P.map (Geo.segV (vOf s))) := fun x h => by
    rw [List.take_succ_eq_append_getElem (by rw [List.length_map]; omega), List.getElem_map, nthP_eq (by omega)]; rfl
  have e3 : ¬ ¬ eOf s = 0 → ∀ x : Nat, ¬ (x : Int) < P.length → List.take x (P.map (Geo.segV (vOf s))) = dOf s := fun h x hx => by rw [List.take_of_length_le (by rw [List.length_map]; omega), dE h]
  clear pM dE pA hq
  repeat' first | with_reducible apply And.intro | with_reducible intro
  all_goals first | assumption | rfl | omega | exact d0 ‹_› | exact he ‹_› | exact hvb _ ‹_› | (unfold ix; omega) | (unfold in64; omega) | exact p1 _ ‹_› | exact p2 _ ‹_› | exact (e1 _ ‹_›).symm | (rw [e1 _ ‹_›]; simp; omega) | (rw [List.length_append, e1 _ ‹_›]; simp; done) | exact e2 _ ‹_› | exact e3 ‹_› _ ‹_› | exact (Decidable.of_not_not ‹¬ ¬ eOf s = 0›).symm)
def t19 : Tab := tabL [(19, c19)] t17
theorem t19o : t19.Ok Tryz.prog := tabL_ok t17o ⟨k19, trivial⟩
def c67 : Con := con (ac aV (ac aV (a1 aV))) (fun (a, b, c) => [bd 1000000000 a, bd 1000000000 b, bd 1000000000 c]) (fun (a, b, c) => aT.enc (Geo.centerP a b c))
theorem k67 : c67.Ok Tryz.prog 67 := con_ok (cx_ok t19o) (raw := noRaw) (fun (a, b, c) => [jb 3 32 (decide ((a.x + b.x + c.x).tmod 3 = 0) && decide ((a.y + b.y + c.y).tmod 3 = 0))]
  ) (fun (_, _, _) => ⟨_, rfl⟩) fun (a, b, c) hp => by_vc (q := in64 (a.x + b.x) ∧ in64 (a.x + b.x + c.x) ∧ in64 (a.y + b.y) ∧ in64 (a.y + b.y + c.y) ∧ ((3 : Int) ≠ 0 ∧ (Int.tmod (a.x + b.x + c.x) 3 = 0 → (3 : Int) ≠ 0 ∧ decide (Int.tmod (a.y + b.y + c.y) 3 = 0) = (decide (Int.tmod (a.x + b.x + c.x) 3 = 0) && decide (Int.tmod (a.y + b.y + c.y) 3 = 0))) ∧
  (¬ Int.tmod (a.x + b.x + c.x) 3 = 0 → false = (decide (Int.tmod (a.x + b.x + c.x) 3 = 0) && decide (Int.tmod (a.y + b.y + c.y) 3 = 0)))) ∧
 (∀ y : Unit, ((decide (Int.tmod (a.x + b.x + c.x) 3 = 0) && decide (Int.tmod (a.y + b.y + c.y) 3 = 0)) = true → (3 : Int) ≠ 0 ∧ in64 (Int.tdiv (a.x + b.x + c.x) 3) ∧ (3 : Int) ≠ 0 ∧ in64 (Int.tdiv (a.y + b.y + c.y) 3) ∧ Int.tdiv (a.x + b.x + c.x) 3 = (Geo.centerP a b c).x ∧ Int.tdiv (a.y + b.y + c.y) 3 = (Geo.centerP a b c).y ∧ 1 = (Geo.centerP a b c).den) ∧
  ((decide (Int.tmod (a.x + b.x + c.x) 3 = 0) && decide (Int.tmod (a.y + b.y + c.y) 3 = 0)) = false → a.x + b.x + c.x = (Geo.centerP a b c).x ∧ a.y + b.y + c.y = (Geo.centerP a b c).y ∧ 3 = (Geo.centerP a b c).den))) (by kernel_rfl) (by
  change bd 1000000000 a ∧ bd 1000000000 b ∧ bd 1000000000 c at hp
  unfold bd at hp
  have k0 : in64 (a.x + b.x) := i64w (by omega)
  have k0' : in64 (a.y + b.y) := i64w (by omega)
  have k1 : in64 (a.x + b.x + c.x) := i64w (by omega)
  have k2 : in64 (a.y + b.y + c.y) := i64w (by omega)
  have q1 := tdivZ_bd (x := a.x + b.x + c.x) (g := 3) (B := 4000000000) (by omega)
  have q2 := tdivZ_bd (x := a.y + b.y + c.y) (g := 3) (B := 4000000000) (by omega)
  have k3 : in64 (Int.tdiv (a.x + b.x + c.x) 3) := i64w (by omega)
  have k4 : in64 (Int.tdiv (a.y + b.y + c.y) 3) := i64w (by omega)
  have m1 : (decide (Int.tmod (a.x + b.x + c.x) 3 = 0) && decide (Int.tmod (a.y + b.y + c.y) 3 = 0)) = true → Geo.centerP a b c = ⟨(a.x + b.x + c.x).tdiv 3, (a.y + b.y + c.y).tdiv 3, 1⟩ := fun h => by
    simp only [Bool.and_eq_true, decide_eq_true_eq] at h; exact if_pos h
  have m2 : (decide (Int.tmod (a.x + b.x + c.x) 3 = 0) && decide (Int.tmod (a.y + b.y + c.y) 3 = 0)) = false → Geo.centerP a b c = ⟨a.x + b.x + c.x, a.y + b.y + c.y, 3⟩ := fun h => if_neg fun h2 => by
    rw [decide_eq_true h2.1, decide_eq_true h2.2] at h; cases h
  clear hp q1 q2
  refine ⟨k0, k1, k0', k2, ⟨by decide, fun h => ⟨by decide, by rw [decide_eq_true h]; rfl⟩, fun h => by rw [decide_eq_false h]; rfl⟩, fun _ => ⟨fun h => ⟨by decide, k3, by decide, k4, ?_⟩, fun h => ?_⟩⟩
  · rw [m1 h]; exact ⟨rfl, rfl, rfl⟩
  · rw [m2 h]; exact ⟨rfl, rfl, rfl⟩)
def t67 : Tab := tabL [(67, c67)] t19
theorem t67o : t67.Ok Tryz.prog := tabL_ok t19o ⟨k67, trivial⟩
def c64 : Con := con (ac aV (ac aV (a1 aV))) (fun (a, b, c) => [bd 1000000000 a, bd 1000000000 b, bd 1000000000 c]) (fun (a, b, c) => .lst .V (Geo.triP a b c)
  )
theorem k64 : c64.Ok Tryz.prog 64 := con_ok (cx_ok t67o) (raw := noRaw) (fun (_, _, _) => []) (fun (_, _, _) => ⟨_, rfl⟩) fun (a, b, c) hp => by_vc (q := bd 1000000000 a ∧ bd 1000000000 b ∧ bd 1000000000 c ∧ (Geo.turn a b c < 0 → [a, c, b].length ≤ 1000 ∧ Geo.canonR [a, c, b] = Geo.triP a b c) ∧
 (¬ Geo.turn a b c < 0 → [a, b, c].length ≤ 1000 ∧ Geo.canonR [a, b, c] = Geo.triP a b c)) (by kernel_rfl) (by
  change bd 1000000000 a ∧ bd 1000000000 b ∧ bd 1000000000 c at hp
  obtain ⟨h1, h2, h3⟩ := hp
  have e1 : Geo.turn a b c < 0 → Geo.canonR [a, c, b] = Geo.triP a b c := fun h => (if_pos h).symm
  have e2 : ¬ Geo.turn a b c < 0 → Geo.canonR [a, b, c] = Geo.triP a b c := fun h => (if_neg h).symm
  repeat' first | with_reducible apply And.intro | with_reducible intro
  all_goals first | assumption | rfl | exact e1 ‹_› | exact e2 ‹_› | (simp; done))
def t64 : Tab := tabL [(64, c64)] t67
theorem t64o : t64.Ok Tryz.prog := tabL_ok t67o ⟨k64, trivial⟩
def aPSh : Ar Geo.Shape where
  enc s := .pro [.lst .V s.outer, .lst .R s.holes] 0
  dec s := match s with
    | .pro [r, h] 0 => (match lstD .V r, lstD .R h with | some o, some hs => some ⟨o, hs⟩ | _, _ => none)
    | _ => none
  ok s a h := by
    split at h
    · split at h <;> cases h
      rename_i r h' _ _ _ h1 h2
      have e1 := lstD_av h1
      have e2 := lstD_av h2
      show (match allP (avs [_, _]) with | some q => AV.p (.pro q 0) | none => .any) = _
      rw [avs, avs, avs, e1, e2]; rfl
    · cases h
  pl _ := ⟨_, rfl⟩
def eB (v : List Geo.V) (i j k n : Nat) : Bool := n != i && n != j && n != k && Geo.whereVP (Geo.triP (nth v i) (nth v j) (nth v k)) (nth v n) != 0
def c62 : Con := con (ac aN (ac aN (ac aN (ac aPR (a1 aPSh))))) (fun (i, j, k, v, s) => [i < v.length, j < v.length, k < v.length, v.length ≤ 900, (∀ x ∈ v, bd 1000000000 x), Fit s]) (fun (i, j, k, v, s) => .bool (Geo.emptyP s v i j k))
theorem k62 : c62.Ok Tryz.prog 62 := con_ok (cx_ok t64o) (raw := noRaw) (fun (i, j, k, v, _) => [cnt 5 41 v.length (upto fun n => eB v i j k n = false) fun n => [jb 8 64 (eB v i j k n)]]
  ) (fun (_, _, _, _, _) => ⟨_, rfl⟩) fun (i, j, k, v, s) hp => by_vc (q := ix (i : Int) v.length ∧ ix (j : Int) v.length ∧ ix (k : Int) v.length ∧ bd 1000000000 (nth v i) ∧ bd 1000000000 (nth v j) ∧ bd 1000000000 (nth v k) ∧ (Geo.turn (nth v i) (nth v j) (nth v k) = 0 → false = Geo.emptyP s v i j k) ∧
 (¬ Geo.turn (nth v i) (nth v j) (nth v k) = 0 → ix (i : Int) v.length ∧ ix (j : Int) v.length ∧ ix (k : Int) v.length ∧ bd 1000000000 (nth v i) ∧ bd 1000000000 (nth v j) ∧ bd 1000000000 (nth v k) ∧ (0 = (0 : Int) ∧ (0 : Nat) ≤ v.length ∧ upto (fun n => eB v i j k n = false) 0) ∧
  (∀ x : Nat, x ≤ v.length ∧ upto (fun n => eB v i j k n = false) x → ((x : Int) < v.length → ix (x : Int) v.length ∧ ((¬ (x : Int) = i → (¬ (x : Int) = j → (¬ (x : Int) = k → (Geo.triP (nth v i) (nth v j) (nth v k)).length ≤ 1000 ∧ decide (¬ Geo.whereVP (Geo.triP (nth v i) (nth v j) (nth v k)) (nth v x) = 0) = eB v i j k x) ∧
       (¬ (¬ (x : Int) = k) → false = eB v i j k x)) ∧
      (¬ (¬ (x : Int) = j) → false = eB v i j k x)) ∧
     (¬ (¬ (x : Int) = i) → false = eB v i j k x)) ∧
    (∀ y : Unit, (eB v i j k x = true → false = Geo.emptyP s v i j k) ∧
     (eB v i j k x = false → in64 ((x : Int) + 1) ∧ (x : Int) + 1 = ((x + 1 : Nat) : Int) ∧ x + 1 ≤ v.length ∧ upto (fun n => eB v i j k n = false) (x + 1) ∧ v.length - (x + 1) < v.length - x))) ∧
   (¬ (x : Int) < v.length → ix (i : Int) v.length ∧ ix (j : Int) v.length ∧ ix (k : Int) v.length ∧ bd 1000000000 (nth v i) ∧ bd 1000000000 (nth v j) ∧ bd 1000000000 (nth v k) ∧ Fit s ∧ decide (Geo.whereSP s (Geo.centerP (nth v i) (nth v j) (nth v k)) = 2) = Geo.emptyP s v i j k)))) (by kernel_rfl) (by
  change i < v.length ∧ j < v.length ∧ k < v.length ∧ v.length ≤ 900 ∧ ((∀ x ∈ v, bd 1000000000 x)) ∧ Fit s at hp
  obtain ⟨hi, hj, hk, hv, hb, hf⟩ := hp
  have hb : ∀ x : Nat, x < v.length → bd 1000000000 (nth v x) := fun x h => hb _ (Geo.nth_mem h)
  have bi := hb i hi
  have bj := hb j hj
  have bk := hb k hk
  have xi : ix (i : Int) v.length := ix_nat hi
  have xj : ix (j : Int) v.length := ix_nat hj
  have xk : ix (k : Int) v.length := ix_nat hk
  have hT : (Geo.triP (nth v i) (nth v j) (nth v k)).length ≤ 1000 := by
    have := tri_length (nth v i) (nth v j) (nth v k); omega
  have t0 : Geo.turn (nth v i) (nth v j) (nth v k) = 0 → false = Geo.emptyP s v i j k := fun h => by unfold Geo.emptyP; rw [h]; rfl
  have bN : ∀ x : Nat, (¬ ¬ (x : Int) = i ∨ ¬ ¬ (x : Int) = j ∨ ¬ ¬ (x : Int) = k) → false = eB v i j k x := fun x h => by
    unfold eB
    rcases h with h | h | h
    · obtain rfl : x = i := by omega
      simp
    · obtain rfl : x = j := by omega
      simp
    · obtain rfl : x = k := by omega
      simp
  have bY : ∀ x : Nat, ¬ (x : Int) = i → ¬ (x : Int) = j → ¬ (x : Int) = k → decide (¬ Geo.whereVP (Geo.triP (nth v i) (nth v j) (nth v k)) (nth v x) = 0) = eB v i j k x := fun x h1 h2 h3 => by
    unfold eB
    rw [bne_iff_ne.2 (show x ≠ i by omega), bne_iff_ne.2 (show x ≠ j by omega), bne_iff_ne.2 (show x ≠ k by omega), Bool.true_and, Bool.true_and, Bool.true_and, Bool.eq_iff_iff]; simp
  have eY : ∀ x : Nat, (x : Int) < v.length → eB v i j k x = true → false = Geo.emptyP s v i j k := fun x h1 h2 => by
    unfold Geo.emptyP
    rw [show ((List.range v.length).all fun n => !(n != i && n != j && n != k && Geo.whereVP (Geo.triP (nth v i) (nth v j) (nth v k)) (nth v n) != 0)) = false from List.all_eq_false.2 ⟨x, List.mem_range.2 (by omega), by rw [show (x != i && x != j && x != k && Geo.whereVP (Geo.triP (nth v i) (nth v j) (nth v k)) (nth v x) != 0) = true from h2]; simp⟩]
    simp
  have eE : ¬ Geo.turn (nth v i) (nth v j) (nth v k) = 0 → ∀ x : Nat, ¬ (x : Int) < v.length → x ≤ v.length → upto (fun n => eB v i j k n = false) x → decide (Geo.whereSP s (Geo.centerP (nth v i) (nth v j) (nth v k)) = 2) = Geo.emptyP s v i j k := fun h0 x h1 h2 h3 => by
    obtain rfl : x = v.length := by omega
    unfold Geo.emptyP
    rw [bne_iff_ne.2 h0, show ((List.range v.length).all fun n => !(n != i && n != j && n != k && Geo.whereVP (Geo.triP (nth v i) (nth v j) (nth v k)) (nth v n) != 0)) = true from List.all_eq_true.2 fun n hn => by rw [show (n != i && n != j && n != k && Geo.whereVP (Geo.triP (nth v i) (nth v j) (nth v k)) (nth v n) != 0) = false from h3 n (List.mem_range.1 hn)]; rfl, Bool.true_and, Bool.true_and, Bool.eq_iff_iff]; simp
  clear hb
  repeat' first | with_reducible apply And.intro | with_reducible intro
  all_goals repeat with_reducible cases ‹_ ∧ upto _ _›
  all_goals first | assumption | rfl | omega | (unfold ix; omega) | (unfold in64; omega) | exact upto_zero _ | exact t0 ‹_› | exact bN _ (.inl ‹_›) | exact bN _ (.inr (.inl ‹_›)) | exact bN _ (.inr (.inr ‹_›)) | exact bY _ ‹_› ‹_› ‹_› | exact eY _ ‹_› ‹_› | exact eE ‹_› _ ‹_› ‹_› ‹_› | exact upto_succ ‹_› ‹_›)
def t62 : Tab := tabL [(62, c62)] t64
theorem t62o : t62.Ok Tryz.prog := tabL_ok t64o ⟨k62, trivial⟩
end
end Go.Proofs.YtdaeofhdgabhjaaGreat
namespace Go.Proofs.YtdaeofhdgabhjaaGreat
open Go.RowKit
theorem u129 : Tryz.prog.underlying 129 = some (.array 80 77) := by kernel_rfl
theorem u77 : Tryz.prog.underlying 77 = some (.array 80 4) := by kernel_rfl
theorem s77 : tsize Tryz.prog 77 = 80 := by kernel_rfl
theorem s4 : tsize Tryz.prog 4 = 1 := by kernel_rfl
theorem i77 : (Tryz.prog.info? 77).isSome = true := by kernel_rfl
theorem i4 : (Tryz.prog.info? 4).isSome = true := by kernel_rfl
theorem at129 {b i : Nat} (hi : i < 80) (w : World) : (Instr.indexAt 129 (.pointer (some ⟨b, 0, none⟩)) (.int .i64 (i : Int))).run Tryz.prog w = .ok (.pointer (some ⟨b, 80 * i, none⟩)) w := by
  have := iaddr_run2 (b := b) (off := 0) (k := .i64) (a := (i : Int)) u129 i77 (by omega) (by omega) w
  rw [this, s77, Nat.zero_add, Int.toNat_natCast, Nat.mul_comm]
theorem at77 {b i o : Nat} (hi : i < 80) (w : World) : (Instr.indexAt 77 (.pointer (some ⟨b, o, none⟩)) (.int .i64 (i : Int))).run Tryz.prog w = .ok (.pointer (some ⟨b, o + i, none⟩)) w := by
  have := iaddr_run2 (b := b) (off := o) (k := .i64) (a := (i : Int)) u77 i4 (by omega) (by omega) w
  rw [this, s4, Int.toNat_natCast, Nat.mul_one]
theorem store_bool {b p : Nat} {arr : Array Value} {t : TypeId} {w : World} (hblk : w.heap[b]? = some (.cells arr t (0, 0))) (hp : p < arr.size) :
    (Instr.storeAt 4 (.pointer (some ⟨b, p, none⟩)) (.bool true)).run Tryz.prog w = .ok () (w.setRow b (arr.setIfInBounds p (.bool true))) := by
  have hst := run_storeCells_at Tryz.prog b p t [.bool true] 0 arr w hblk (by simp; omega) (by simp [Value.oneCell'])
  have e : (arr.toList.take (p + 0) ++ [Value.bool true] ++ arr.toList.drop (p + 0 + [Value.bool true].length)).toArray = arr.setIfInBounds p (.bool true) := by
    apply Array.toList_inj.1
    rw [Array.toList_setIfInBounds, List.set_eq_take_append_cons_drop, if_pos (by simpa using hp)]
    simp
  rw [e] at hst
  obtain ⟨i, hi⟩ := Option.isSome_iff_exists.1 i4
  have hs : i.size = 1 := by have := s4; unfold tsize at this; rw [hi] at this; simpa using this
  simp [Instr.storeAt, Instr.sureAddr, storeVar, sizeOf, typeInfo, Sem.run_bind, Sem.run_pure, Result.andThen_ok, run_program, hi, hs, Value.cells, hst]
theorem setRow_keeps {w0 w : World} {b : Nat} {arr arr' : Array Value} {t : TypeId} (h : w.heap[b]? = some (.cells arr t (0, 0)) ∧ w0.grownBy w (some b)) :
    (w.setRow b arr').heap[b]? = some (.cells arr' t (0, 0)) ∧ w0.grownBy (w.setRow b arr') (some b) := by
  refine ⟨setRow_heap w b arr arr' t (0, 0) h.1, ⟨h.2.os, h.2.tape, h.2.output, ?_, fun k hk hne => ?_⟩⟩
  · have := h.2.size; unfold World.setRow; simpa using this
  · rw [← h.2.block k hk hne]
    unfold World.setRow
    simp only [Array.getElem?_modify]
    rw [if_neg (fun e => hne (by rw [e]))]
set_option maxHeartbeats 2000000 in
theorem join_any (c d : Nat) (hi : c < 80) (hj : d < 80) (w : World) (b : Nat) (arr : Array Value) (hblk : w.heap[b]? = some (.cells arr 129 (0, 0))) (hsz : arr.size = 6400) :
    Calls Tryz.prog 136 #[.pointer (some ⟨b, 0, none⟩), .int .i64 c, .int .i64 d] w fun e w' => e = .returned Go.undef ∧
      (w'.heap[b]? = some (.cells ((arr.setIfInBounds (80 * c + d) (.bool true)).setIfInBounds (80 * d + c) (.bool true)) 129 (0, 0)) ∧ w.grownBy w' (some b)) := by
  have hp : 80 * c + d < arr.size := by omega
  have hq : 80 * d + c < (arr.setIfInBounds (80 * c + d) (.bool true)).size := by simp; omega
  clear hsz
  go_enter Tryz.func136, Tryz.ntmps136
  refine wp_region_F (by kernel_rfl) [6, 7, 8, 9, 10, 11, 12, 13, 14, 15, 16, 17] [[], [], [], [], [], [], [0], [0, 1, 6], [0, 1, 2, 6, 7], [0, 1, 2, 6, 7, 8], [3], [3, 4, 10], [0, 1, 2, 3, 4, 5, 6, 7, 8, 9, 10, 11], [0, 1, 2, 3, 4, 5, 6, 7, 8, 9, 10, 11, 12]] (by kernel_rfl) (by kernel_rfl) (by intro s hs; simp at hs ⊢; omega)
    (WR3 9 13 (fun wx => wx.heap[b]? = some (.cells arr 129 (0, 0)) ∧ w.grownBy wx (some b)) (fun wx => wx.heap[b]? = some (.cells (arr.setIfInBounds (80 * c + d) (.bool true)) 129 (0, 0)) ∧ w.grownBy wx (some b)) (fun wx => wx.heap[b]? = some (.cells ((arr.setIfInBounds (80 * c + d) (.bool true)).setIfInBounds (80 * d + c) (.bool true)) 129 (0, 0)) ∧ w.grownBy wx (some b)))
    (fun i v wx => match i with
      | 0 => v = .pointer (some ⟨b, 0, none⟩)
      | 1 => v = .int .i64 (c : Int)
      | 2 => v = .int .i64 (d : Int)
      | 3 => v = .pointer (some ⟨b, 0, none⟩)
      | 4 => v = .int .i64 (d : Int)
      | 5 => v = .int .i64 (c : Int)
      | 6 => v = .pointer (some ⟨b, 0, none⟩)
      | 7 => v = .pointer (some ⟨b, 80 * c, none⟩)
      | 8 => v = .pointer (some ⟨b, 80 * c + d, none⟩)
      | 9 => True
      | 10 => v = .pointer (some ⟨b, 0, none⟩)
      | 11 => v = .pointer (some ⟨b, 80 * d, none⟩)
      | 12 => v = .pointer (some ⟨b, 80 * d + c, none⟩)
      | 13 => True
      | _ => True)
    (WR3.start ⟨hblk, ⟨rfl, rfl, rfl, Nat.le_refl _, fun _ _ _ => rfl⟩⟩) ?_ ?_ ?_
  · intro j v wx wy hf hxy
    match j with
    | 0 => exact hf
    | 1 => exact hf
    | 2 => exact hf
    | 3 => exact hf
    | 4 => exact hf
    | 5 => exact hf
    | 6 => exact hf
    | 7 => exact hf
    | 8 => exact hf
    | 9 => exact hf
    | 10 => exact hf
    | 11 => exact hf
    | 12 => exact hf
    | 13 => exact hf
    | _ + 14 => exact trivial
  · refine ⟨?_, ?_, ?_, ?_, ?_, ?_, ?_, ?_, ?_, ?_, ?_, ?_, ?_, ?_, trivial⟩
    · intro D V wx hD hanc hdesc hin hWR
      have hA := hWR.lo (hdesc 9 (by kernel_rfl)) (hdesc 13 (by kernel_rfl))
      have e0 := hin 0 (by kernel_rfl)
      simp at e0
      refine opK ?_
      intro K hK
      simp [opRun, execOp, evalV, e0, go_sem]
      exact hK _ _ ⟨rfl, (hWR.keep (by decide) (by decide)), .inl rfl⟩
    · intro D V wx hD hanc hdesc hin hWR
      have hA := hWR.lo (hdesc 9 (by kernel_rfl)) (hdesc 13 (by kernel_rfl))
      have e1 := hin 1 (by kernel_rfl)
      simp at e1
      refine opK ?_
      intro K hK
      simp [opRun, execOp, evalV, e1, go_sem]
      exact hK _ _ ⟨rfl, (hWR.keep (by decide) (by decide)), .inl rfl⟩
    · intro D V wx hD hanc hdesc hin hWR
      have hA := hWR.lo (hdesc 9 (by kernel_rfl)) (hdesc 13 (by kernel_rfl))
      have e2 := hin 2 (by kernel_rfl)
      simp at e2
      refine opK ?_
      intro K hK
      simp [opRun, execOp, evalV, e2, go_sem]
      exact hK _ _ ⟨rfl, (hWR.keep (by decide) (by decide)), .inl rfl⟩
    · intro D V wx hD hanc hdesc hin hWR
      have e0 := hin 0 (by kernel_rfl)
      simp at e0
      refine opK ?_
      intro K hK
      simp [opRun, execOp, evalV, e0, go_sem]
      exact hK _ _ ⟨rfl, (hWR.keep (by decide) (by decide)), .inl rfl⟩
    · intro D V wx hD hanc hdesc hin hWR
      have e2 := hin 2 (by kernel_rfl)
      simp at e2
      refine opK ?_
      intro K hK
      simp [opRun, execOp, evalV, e2, go_sem]
      exact hK _ _ ⟨rfl, (hWR.keep (by decide) (by decide)), .inl rfl⟩
    · intro D V wx hD hanc hdesc hin hWR
      have e1 := hin 1 (by kernel_rfl)
      simp at e1
      refine opK ?_
      intro K hK
      simp [opRun, execOp, evalV, e1, go_sem]
      exact hK _ _ ⟨rfl, (hWR.keep (by decide) (by decide)), .inl rfl⟩
    · intro D V wx hD hanc hdesc hin hWR
      have hA := hWR.lo (hdesc 9 (by kernel_rfl)) (hdesc 13 (by kernel_rfl))
      have e6 : V 6 = .pointer (some ⟨b, 0, none⟩) := (hanc 0 (by kernel_rfl)).2
      refine opK ?_
      intro K hK
      simp [opRun, execOp, evalV, e6, go_sem]
      exact hK _ _ ⟨rfl, (hWR.keep (by decide) (by decide)), .inl rfl⟩
    · intro D V wx hD hanc hdesc hin hWR
      have hA := hWR.lo (hdesc 9 (by kernel_rfl)) (hdesc 13 (by kernel_rfl))
      have e7 : V 7 = .int .i64 (c : Int) := (hanc 1 (by kernel_rfl)).2
      have e12 : V 12 = .pointer (some ⟨b, 0, none⟩) := (hanc 6 (by kernel_rfl)).2
      refine opK ?_
      intro K hK
      unfold opRun execOp
      simp only [evalV, e12, e7, Sem.run_bind, at129 hi, Result.andThen_ok, Sem.run_pure]
      exact hK _ _ ⟨rfl, (hWR.keep (by decide) (by decide)), .inl rfl⟩
    · intro D V wx hD hanc hdesc hin hWR
      have hA := hWR.lo (hdesc 9 (by kernel_rfl)) (hdesc 13 (by kernel_rfl))
      have e8 : V 8 = .int .i64 (d : Int) := (hanc 2 (by kernel_rfl)).2
      have e13 : V 13 = .pointer (some ⟨b, 80 * c, none⟩) := (hanc 7 (by kernel_rfl)).2
      refine opK ?_
      intro K hK
      unfold opRun execOp
      simp only [evalV, e13, e8, Sem.run_bind, at77 hj, Result.andThen_ok, Sem.run_pure]
      exact hK _ _ ⟨rfl, (hWR.keep (by decide) (by decide)), .inl rfl⟩
    · intro D V wx hD hanc hdesc hin hWR
      have hA := hWR.lo hD (hdesc 13 (by kernel_rfl))
      have e14 : V 14 = .pointer (some ⟨b, 80 * c + d, none⟩) := (hanc 8 (by kernel_rfl)).2
      refine opK ?_
      intro K hK
      unfold opRun execOp
      simp only [evalV, e14, Sem.run_bind, store_bool hA.1 hp, Result.andThen_ok, Sem.run_pure]
      refine hK _ _ ⟨trivial, .mkMid (hdesc 13 (by kernel_rfl)) (by decide) (setRow_keeps hA), .inr (.inr ?_)⟩
      intro j hj hf
      match j with
      | 0 => exact hf
      | 1 => exact hf
      | 2 => exact hf
      | 3 => exact hf
      | 4 => exact hf
      | 5 => exact hf
      | 6 => exact hf
      | 7 => exact hf
      | 8 => exact hf
      | 9 => exact absurd (hj.symm.trans hD) (by decide)
      | 10 => exact hf
      | 11 => exact hf
      | 12 => exact absurd (hj.symm.trans (hdesc 12 (by kernel_rfl))) (by decide)
      | 13 => exact absurd (hj.symm.trans (hdesc 13 (by kernel_rfl))) (by decide)
      | _ + 14 => exact trivial
    · intro D V wx hD hanc hdesc hin hWR
      have e9 : V 9 = .pointer (some ⟨b, 0, none⟩) := (hanc 3 (by kernel_rfl)).2
      refine opK ?_
      intro K hK
      simp [opRun, execOp, evalV, e9, go_sem]
      exact hK _ _ ⟨rfl, (hWR.keep (by decide) (by decide)), .inl rfl⟩
    · intro D V wx hD hanc hdesc hin hWR
      have e10 : V 10 = .int .i64 (d : Int) := (hanc 4 (by kernel_rfl)).2
      have e15 : V 15 = .pointer (some ⟨b, 0, none⟩) := (hanc 10 (by kernel_rfl)).2
      refine opK ?_
      intro K hK
      unfold opRun execOp
      simp only [evalV, e15, e10, Sem.run_bind, at129 hj, Result.andThen_ok, Sem.run_pure]
      exact hK _ _ ⟨rfl, (hWR.keep (by decide) (by decide)), .inl rfl⟩
    · intro D V wx hD hanc hdesc hin hWR
      have hB := hWR.mid (hanc 9 (by kernel_rfl)).1 (hdesc 13 (by kernel_rfl))
      have e11 : V 11 = .int .i64 (c : Int) := (hanc 5 (by kernel_rfl)).2
      have e16 : V 16 = .pointer (some ⟨b, 80 * d, none⟩) := (hanc 11 (by kernel_rfl)).2
      refine opK ?_
      intro K hK
      unfold opRun execOp
      simp only [evalV, e16, e11, Sem.run_bind, at77 hi, Result.andThen_ok, Sem.run_pure]
      exact hK _ _ ⟨rfl, (hWR.keep (by decide) (by decide)), .inl rfl⟩
    · intro D V wx hD hanc hdesc hin hWR
      have hB := hWR.mid (hanc 9 (by kernel_rfl)).1 hD
      have e17 : V 17 = .pointer (some ⟨b, 80 * d + c, none⟩) := (hanc 12 (by kernel_rfl)).2
      refine opK ?_
      intro K hK
      unfold opRun execOp
      simp only [evalV, e17, Sem.run_bind, store_bool hB.1 hq, Result.andThen_ok, Sem.run_pure]
      refine hK _ _ ⟨trivial, .mkHi (setRow_keeps hB), .inr (.inr ?_)⟩
      intro j hj hf
      match j with
      | 0 => exact hf
      | 1 => exact hf
      | 2 => exact hf
      | 3 => exact hf
      | 4 => exact hf
      | 5 => exact hf
      | 6 => exact hf
      | 7 => exact hf
      | 8 => exact hf
      | 9 => exact hf
      | 10 => exact hf
      | 11 => exact hf
      | 12 => exact hf
      | 13 => exact absurd (hj.symm.trans hD) (by decide)
      | _ + 14 => exact trivial
  intro D V wx hall hf hWR
  replace hWR := hWR.hi (hall 13 (by decide))
  have f0 : V 6 = .pointer (some ⟨b, 0, none⟩) := hf 0 (by decide)
  have f1 : V 7 = .int .i64 (c : Int) := hf 1 (by decide)
  have f2 : V 8 = .int .i64 (d : Int) := hf 2 (by decide)
  have f3 : V 9 = .pointer (some ⟨b, 0, none⟩) := hf 3 (by decide)
  have f4 : V 10 = .int .i64 (d : Int) := hf 4 (by decide)
  have f5 : V 11 = .int .i64 (c : Int) := hf 5 (by decide)
  have f6 : V 12 = .pointer (some ⟨b, 0, none⟩) := hf 6 (by decide)
  have f7 : V 13 = .pointer (some ⟨b, 80 * c, none⟩) := hf 7 (by decide)
  have f8 : V 14 = .pointer (some ⟨b, 80 * c + d, none⟩) := hf 8 (by decide)
  have f10 : V 15 = .pointer (some ⟨b, 0, none⟩) := hf 10 (by decide)
  have f11 : V 16 = .pointer (some ⟨b, 80 * d, none⟩) := hf 11 (by decide)
  have f12 : V 17 = .pointer (some ⟨b, 80 * d + c, none⟩) := hf 12 (by decide)
  clear hf hall
  simp only [putAll, List.foldl_cons, List.foldl_nil, f0, f1, f2, f3, f4, f5, f6, f7, f8, f10, f11, f12]
  simp only [Act.put, List.setIfInBounds_toArray, List.set_cons_succ, List.set_cons_zero]
  clear f0 f1 f2 f3 f4 f5 f6 f7 f8 f10 f11 f12
  refine bodyPost_end (results_none rfl _ _ _) rfl ?_
  exact ⟨rfl, hWR⟩
def tabCells (T : Nat → Bool) : List PV := (List.range 6400).map fun k => .bool (T k)
def joinT (T : Nat → Bool) (c d : Nat) : Nat → Bool := fun k => T k || k == 80 * c + d || k == 80 * d + c
theorem tabCells_length (T : Nat → Bool) : (tabCells T).length = 6400 := by unfold tabCells; simp
theorem tabCells_get (T : Nat → Bool) {k : Nat} {x : PV} (h : (tabCells T)[k]? = some x) : k < 6400 ∧ x = .bool (T k) := by
  have hk : k < 6400 := by have := (List.getElem?_eq_some_iff.1 h).1; rwa [tabCells_length] at this
  refine ⟨hk, ?_⟩
  unfold tabCells at h
  rw [List.getElem?_map, List.getElem?_range hk] at h
  simpa using h.symm
theorem sat_join (T : Nat → Bool) (c d : Nat) (hc : c < 80) (hd : d < 80) : SatM Tryz.prog 136 none [.int .i64 c, .int .i64 d] 129 0 (tabCells T) (tabCells (joinT T c d)) := by
  refine ⟨by kernel_rfl, by rw [tabCells_length, tabCells_length], ?_, fun h => by cases h⟩
  intro C w b cc arr vs hC hL _ hA
  unfold RepL RepL RepL RepV at hA
  obtain ⟨v1, r1, rfl, rfl, v2, r2, rfl, rfl, rfl⟩ := hA
  have hsz : arr.size = 6400 := by rw [hL.box rfl, tabCells_length]
  refine (join_any c d hc hd w b arr hL.blk hsz).mono ?_
  rintro e w' ⟨rfl, h1, h2⟩
  refine ⟨_, rfl, ⟨h1, fun _ => by simp [hsz, tabCells_length], (fun h => absurd rfl h), ?_⟩, h2⟩
  intro k x hk
  obtain ⟨hk1, rfl⟩ := tabCells_get _ hk
  obtain ⟨v, h3, h4, h5⟩ := hL.cells k (.bool (T k)) (by unfold tabCells; rw [List.getElem?_map, List.getElem?_range hk1]; rfl)
  unfold RepV at h5
  subst h5
  refine ⟨.bool (joinT T c d k), ?_, rfl, by unfold RepV; rfl⟩
  simp only [Array.getElem?_setIfInBounds, Array.size_setIfInBounds]
  unfold joinT
  by_cases e1 : 80 * d + c = k
  · subst e1; simp; omega
  · rw [if_neg e1]
    have e3 : (k == 80 * d + c) = false := by simp; omega
    by_cases e2 : 80 * c + d = k
    · subst e2; simp; omega
    · have e4 : (k == 80 * c + d) = false := by simp; omega
      rw [if_neg e2, h3, e3, e4]; simp
end Go.Proofs.YtdaeofhdgabhjaaGreat
namespace Go.Proofs.YtdaeofhdgabhjaaGreat
open Go.RowKit
section
variable {P : Program} {N : Nat} {ds : List (Option Nat)} {K : List AV → Sto → Feet → Prop} {o : Oper} {rest : List Oper} {i : Nat} {F F' : List AV} {L : Sto} {log : Feet} {r : AV} {R : List Nat} {W : Sto}
def opR (P : Program) (n : Nat) (o : Oper) (F : List AV) (L : Sto) (r : AV) (R : List Nat) (W : Sto) : Prop := match o.op with
  | .move x => evalA F x = r ∧ [] = R ∧ [] = W
  | .assign x => evalA F x = r ∧ [] = R ∧ [] = W
  | _ => AOp P n o (evalA F) (look L) (fun r' R' W' => r' = r ∧ R' = R ∧ W' = W)
def opG (P : Program) (n : Nat) (ds : List (Option Nat)) (o : Oper) (F : List AV) (L : Sto) (r : AV) (R : List Nat) (W : Sto) : Prop := match o.guard with
  | none => opR P n o F L r R W
  | some (j, b) => match gdA ds F j with
    | some (some c) => (match c, b with
      | true, true => opR P n o F L r R W
      | false, false => opR P n o F L r R W
      | true, false => .undef = r ∧ [] = R ∧ [] = W
      | false, true => .undef = r ∧ [] = R ∧ [] = W)
    | some none => .undef = r ∧ [] = R ∧ [] = W
    | none => False
theorem opR_aop {n : Nat} (h : opR P n o F L r R W) : AOp P n o (evalA F) (look L) (fun r' R' W' => r' = r ∧ R' = R ∧ W' = W) := by
  unfold opR at h
  split at h
  · rename_i x e
    unfold AOp; rw [e]; exact h
  · rename_i x e
    unfold AOp; rw [e]; exact .inl h
  · exact h
theorem op (h : opG P (N + i) ds o F L r R []) (hF : putA F o.dst r = F') (h2 : aops P N ds rest (i + 1) F' L (log ++ [(R, [])]) K) : aops P N ds (o :: rest) i F L log K := by
  unfold opG at h
  split at h
  · rename_i e
    exact aops_step e rfl rfl (opR_aop h) hF rfl rfl h2
  · rename_i j b e
    split at h
    · rename_i c e2
      split at h
      · exact aops_step_g e e2 rfl rfl (opR_aop h) hF rfl rfl h2
      · exact aops_step_g e e2 rfl rfl (opR_aop h) hF rfl rfl h2
      · obtain ⟨rfl, rfl, _⟩ := h
        exact aops_skip e e2 (by decide) rfl hF rfl h2
      · obtain ⟨rfl, rfl, _⟩ := h
        exact aops_skip e e2 (by decide) rfl hF rfl h2
    · rename_i e2
      obtain ⟨rfl, rfl, _⟩ := h
      exact aops_skip e e2 (fun h => by cases h) rfl hF rfl h2
    · exact h.elim
end
theorem PS : (∀ (F : List AV) (d : Nat) (r : AV), putA F (some d) r = F.set d r) ∧ (∀ (F : List AV) (r : AV), putA F none r = F) ∧ (∀ {α : Type} (a : α) (l : List α) (n : Nat) (d : α), (a :: l).set (n + 1) d = a :: l.set n d) ∧ (∀ {α : Type} (a : α) (l : List α) (d : α), (a :: l).set 0 d = d :: l) := ⟨fun _ _ _ => rfl, fun _ _ => rfl, fun _ _ _ _ => rfl, fun _ _ _ => rfl⟩
def un : Nat → List AV → List AV
  | 0, l => l
  | n + 1, l => .undef :: un n l
section
variable {P : Program} {Q : APost} {F : List AV} {L : Sto} {N : Nat} {y : Code}
theorem pl {id : Nat} {l : List Oper} (N' : Nat) (hg : gOk l = true) (hN : N + l.length = N')
    (h : ∀ K : List AV → Sto → Nat → Prop, (∀ F L N, awp P y Q F L N → K F L N) → aops P N (l.map (·.dst)) l 0 F L [] fun F L _ => K F L N') : awp P (.seq (.region id l.toArray false) y) Q F L N := awp_plain hg hN h
theorem ple {id : Nat} {l : List Oper} (N' : Nat) (hg : gOk l = true) (hN : N + l.length = N')
    (h : ∀ K : List AV → Sto → Nat → Prop, (∀ F L N, Q .normal F L N → K F L N) → aops P N (l.map (·.dst)) l 0 F L [] fun F L _ => K F L N') : awp P (.region id l.toArray false) Q F L N := awp_plain_end hg hN h
end
theorem GG : (∀ {α : Type} (a : α) (l : List α), (a :: l)[0]? = some a) ∧ (∀ {α : Type} (a : α) (l : List α) (i : Nat), (a :: l)[i + 1]? = l[i]?) ∧ (∀ {α β : Type} (f : α → β) (a : α) (l : List α), List.map f (a :: l) = f a :: List.map f l) ∧ (∀ {α β : Type} (f : α → β), List.map f [] = []) ∧ (∀ {α : Type} (x : Option α), (some x).join = x) ∧ (∀ {α : Type} (a : α) (l : List α) (n : Nat) (d : α), (a :: l).getD (n + 1) d = l.getD n d) ∧ (∀ {α : Type} (a : α) (l : List α) (d : α), (a :: l).getD 0 d = a) := ⟨fun _ _ => rfl, fun _ _ _ => rfl, fun _ _ _ => rfl, fun _ => rfl, fun _ => rfl, fun _ _ _ _ => rfl, fun _ _ _ => rfl⟩
theorem IF : (∀ {α : Type} (a : α), (a = a) = True) ∧ (∀ {α : Type} {_h : Decidable True} (t e : α), ite True t e = t) ∧ (∀ {α : Type} {_h : Decidable False} (t e : α), ite False t e = e) := ⟨fun _ => by simp, fun {_} {h} _ _ => by cases h <;> simp, fun {_} {h} _ _ => by cases h <;> simp⟩
attribute [go_sem] relL relS relO okL rnAt an RL
attribute [go_sem] opG opR AOp evalA gdA Option.join_some ofConst constA mkAgg allP loadP loadA look binA arithA intsOf faddrA pickA iaddrA lenA unA extrA mmA buildA fillA cellsA setA ne_eq not_false_eq_true
attribute [go_sem] GD GS LA LB LC LI
attribute [go_sem] T3 T23 T24 T26 T32 T44 T46 T65 T67
end Go.Proofs.YtdaeofhdgabhjaaGreat
namespace Go.Proofs.YtdaeofhdgabhjaaGreat
open Go.RowKit
theorem goCall_box {P : Program} {σ : Nat → Option Ob} {f : FuncId} {s : Nat} {rest : List AV} {K : Res} {ty : TypeId} {cells cells' : List PV} {A : List PV}
    (hob : σ s = some ⟨ty, 0, cells.map .p⟩) (hA : allP rest = some A) (hS : SatM P f none A ty 0 cells cells') (hK : K .undef [s] [(s, some ⟨ty, 0, cells'.map .p⟩)]) : goCall P σ f (.ptr s 0 :: rest) K :=
  .inr ⟨ty, cells, hob, A, cells', hA, hS, hK⟩
theorem relL_p (m : Rn) : ∀ l : List PV, relL m (l.map .p) (l.map .p)
  | [] => by simp [relL]
  | x :: l => by simp only [List.map_cons, relL, relS]; exact ⟨trivial, relL_p m l⟩
def tabP (T : Geo.Tab) : List PV := tabCells fun k => T (k / 80) (k % 80)
theorem tabP_join (T : Geo.Tab) {c d : Nat} (hc : c < 80) (hd : d < 80) : tabCells (joinT (fun k => T (k / 80) (k % 80)) c d) = tabP (Geo.joinT T c d) := by
  unfold tabP tabCells
  apply List.map_congr_left
  intro k hk
  have hk := List.mem_range.1 hk
  unfold joinT Geo.joinT
  congr 1
  show (T (k / 80) (k % 80) || k == 80 * c + d || k == 80 * d + c) = if (k / 80 = c ∧ k % 80 = d) ∨ (k / 80 = d ∧ k % 80 = c) then true else T (k / 80) (k % 80)
  by_cases h1 : k / 80 = c ∧ k % 80 = d
  · have e : (k == 80 * c + d) = true := by simp; omega
    rw [if_pos (.inl h1), e]; simp
  · have e : (k == 80 * c + d) = false := by simp; omega
    by_cases h2 : k / 80 = d ∧ k % 80 = c
    · have e : (k == 80 * d + c) = true := by simp; omega
      rw [if_pos (.inr h2), e]; simp
    · have e2 : (k == 80 * d + c) = false := by simp; omega
      have h3 : ¬ ((k / 80 = c ∧ k % 80 = d) ∨ (k / 80 = d ∧ k % 80 = c)) := fun h => h.elim h1 h2
      rw [if_neg h3, e, e2, Bool.or_false, Bool.or_false]
theorem sat_joinP (T : Geo.Tab) {c d : Nat} (hc : c < 80) (hd : d < 80) : SatM Tryz.prog 136 none [.int .i64 c, .int .i64 d] 129 0 (tabP T) (tabP (Geo.joinT T c d)) := by
  have := sat_join (fun k => T (k / 80) (k % 80)) c d hc hd
  rwa [tabP_join T hc hd] at this
theorem tabZ : tabP (fun _ _ => false) = List.replicate 6400 (.bool false) := by
  unfold tabP tabCells
  refine List.eq_replicate_iff.2 ⟨by rw [List.length_map, List.length_range], fun x hx => ?_⟩
  obtain ⟨k, _, rfl⟩ := List.mem_map.1 hx
  rfl
theorem T129_zero : tzero Tryz.prog 129 = some (List.replicate 6400 (.p (.bool false))) := by kernel_rfl
theorem T129_zone : tzone Tryz.prog 129 = true := by kernel_rfl
theorem buildA_nil {P : Program} {t : TypeId} {z : List PV} {K : AV → Prop} (hz : tzero P t = some (z.map .p)) (h1 : tzone P t = true) (h2 : partsOk P t = true) (hK : K (.p (.agg z))) : buildA P t [] K := by
  refine ⟨_, hz, h1, h2, _, rfl, ?_⟩
  unfold mkAgg; rw [allP_mapp]; exact hK
theorem T129_zero' : tzero Tryz.prog 129 = some ((tabP fun _ _ => false).map .p) := by
  rw [T129_zero, tabZ, List.map_replicate]
theorem build129 {K : AV → Prop} (h : K (.p (.agg (tabP fun _ _ => false)))) : buildA Tryz.prog 129 [] K := buildA_nil T129_zero' T129_zone T129_parts h
theorem pairsT_succ (l : List (Nat × Nat)) {k : Nat} (hk : k < l.length) : Geo.joinT (Geo.pairsT (l.take k)) l[k].1 l[k].2 = Geo.pairsT (l.take (k + 1)) := by
  unfold Geo.pairsT
  rw [List.take_add_one, List.getElem?_eq_getElem hk, List.foldl_append]; rfl
theorem ringsT_snoc : ∀ (l : List Geo.Ring) (t : Geo.Tab) (a : Nat) (r : Geo.Ring), Geo.ringsT t a (l ++ [r]) = Geo.ringT (Geo.ringsT t a l) r.length (a + l.flatten.length) r.length
  | [], t, a, r => rfl
  | x :: l, t, a, r => by
    simp only [List.cons_append, Geo.ringsT, ringsT_snoc l, List.flatten_cons, List.length_append, Nat.add_assoc]
theorem ringsT_succ (R : List Geo.Ring) (t : Geo.Tab) {k : Nat} (hk : k < R.length) : Geo.ringsT t 0 (R.take (k + 1)) = Geo.ringT (Geo.ringsT t 0 (R.take k)) R[k].length (R.take k).flatten.length R[k].length := by
  rw [List.take_add_one, List.getElem?_eq_getElem hk]
  show Geo.ringsT t 0 (R.take k ++ [R[k]]) = _
  rw [ringsT_snoc, Nat.zero_add]
theorem flat_take_le (R : List Geo.Ring) (k : Nat) : (R.take k).flatten.length ≤ R.flatten.length := by
  have : R.flatten = (R.take k).flatten ++ (R.drop k).flatten := by rw [← List.flatten_append, List.take_append_drop]
  rw [this, List.length_append]; omega
theorem flat_snoc (L : List Geo.Ring) {k : Nat} (hk : k < L.length) : (L.take (k + 1)).flatten = (L.take k).flatten ++ L[k] := by
  rw [List.take_add_one, List.flatten_append, List.getElem?_eq_getElem hk]; simp
theorem sat_of {f : FuncId} {xs : List SV} {r : SV} {B : List PV} {q : PV} (h : ∃ A q, avs xs = A.map .p ∧ r.av = .p q ∧ Sat Tryz.prog false f A q) (hB : avs xs = B.map .p) (hq : r.av = .p q) : Sat Tryz.prog false f B q := by
  obtain ⟨A, q', h1, h2, h3⟩ := h
  rw [hq] at h2
  cases h2
  rw [hB] at h1
  have : B = A := by have := congrArg allP h1; rw [allP_mapp, allP_mapp] at this; cases this; rfl
  subst this
  exact h3
theorem av_sh (s : Geo.Shape) : (aSh.enc s).av = .p (shapeP s) := by
  show mkAgg [.p (.sl s.outer.length (encV s.outer)), .p (.sl s.holes.length (LT.R.enc s.holes))] = _
  rw [enc_R]; rfl
set_option maxRecDepth 100000 in
set_option maxHeartbeats 2000000 in
theorem sat_joined (s : Geo.Shape) (hf : Fit s) (hv : Geo.validSP s = true) (v : List Geo.V) (hn : v.length ≤ 80) (hR80 : (Geo.ringsS (Geo.canonS s)).flatten.length ≤ 80) (hvs : ∀ x ∈ v, bd 1000000000 x) :
    Sat Tryz.prog false 61 [.agg [ringP s.outer, ringsP s.holes], .sl v.length (encV v)] (.pro (tabP (Geo.joinedP s v)) 0) := by
  have V := (Geo.validSP_iff s).1 hv
  have hfC := fit_canon hf
  have hpos := canon_pos V
  have c60 : Sat Tryz.prog false 60 [shapeP s, .sl v.length (encV v)] (.sl (Geo.pairsP s v).length (encP (Geo.pairsP s v))) :=
    sat_of (k60 [aSh.enc s, .lst .V v] (s, v) rfl ((andL_iff (l := c60.pre (s, v))).1 ⟨hf, (show v.length ≤ 900 by omega), hvs, (show (Geo.edgesS s).length ≤ 1000000 by have := vs_edgesLen V; omega)⟩)) (by simp only [avs, av_sh]; rfl) rfl
  have c57 : Sat Tryz.prog false 57 [shapeP s] (shapeP (Geo.canonS s)) :=
    sat_of (k57 [aSh.enc s] s rfl ((andL_iff (l := c57.pre s)).1 hf)) (by simp only [avs, av_sh]; rfl) (by show (aSh.enc (canX s)).av = _; rw [av_sh, show canX s = Geo.canonS s from if_pos hv])
  have c56 := sat_shapeRings (Geo.canonS s) hfC hpos
  have hP80 : ∀ p ∈ Geo.pairsP s v, p.1 < 80 ∧ p.2 < 80 := fun p hp => by have := pairsP_mem hp; omega
  have t00 : Geo.pairsT [] = fun _ _ => false := rfl
  have hPl : (Geo.pairsP s v).length ≤ 900000 := by
    have := pairsUp_len (s := s) (v := v) v.length
    have h2 : v.length * v.length ≤ 80 * 80 := Nat.mul_le_mul hn hn
    unfold Geo.pairsP; omega
  have hRl : (Geo.ringsS (Geo.canonS s)).length ≤ 901 := by have := hfC.2.1; simp [Geo.ringsS]; omega
  have hJ : Geo.joinedP s v = Geo.ringsT (Geo.pairsT (Geo.pairsP s v)) 0 (Geo.ringsS (Geo.canonS s)) := rfl
  rw [hJ]
  clear hJ
  generalize Geo.pairsP s v = P at c60 hP80 hPl ⊢
  generalize Geo.ringsS (Geo.canonS s) = R at c56 hR80 hRl ⊢
  replace c56 : Sat Tryz.prog true 56 [shapeP (Geo.canonS s)] (.sl R.length (R.map ringP)) := c56
  refine sat_of_awp (by kernel_rfl) Tryz.func61 rfl ?_
  rw [Tryz.ntmps61, Tryz.results61]
  show awp _ _ (retP _ _ _) (.p (.agg [ringP s.outer, ringsP s.holes]) :: .p (.sl v.length (encV v)) :: un 59 []) [] 0
  simp only [un]
  refine pl 2 (by kernel_rfl) rfl fun K0 hK0 => ?_
  refine st 0 1 rfl rfl rfl (by simp only [AOp, evalA, GD, boxA, cellsA, LA, LB]; and_intros <;> first | rfl | trivial) (by simp only [PS]; rfl) (by simp only [GS]; rfl) ?_
  refine op (by simp only [go_sem, simprocAttr]; and_intros <;> first | rfl | trivial) (by simp only [PS]; rfl) ?_
  refine aops_done (hK0 _ _ _ ?_)
  refine pl 5 (by kernel_rfl) rfl fun K1 hK1 => ?_
  refine sp 1 rfl rfl (by simp only [AOp, evalA]; exact build129 ⟨rfl, rfl, trivial⟩) (by simp only [PS]; rfl) ?_
  refine st 3 2 rfl rfl rfl (by simp only [AOp, evalA, GD, boxA, cellsA, LA]; and_intros <;> first | rfl | trivial) (by simp only [PS]; rfl) (by simp only [GS]; rfl) ?_
  refine op (by simp only [go_sem, simprocAttr]; and_intros <;> first | rfl | trivial) (by simp only [PS]; rfl) ?_
  refine aops_done (hK1 _ _ _ ?_)
  refine awp_seq_k fun K2 hK2 => ?_
  refine pl 10 (by kernel_rfl) rfl fun K3 hK3 => ?_
  iterate 2 refine op (by simp only [go_sem, simprocAttr]; and_intros <;> first | rfl | trivial) (by simp only [PS]; rfl) ?_
  refine sp 3 rfl rfl (by simp only [AOp, evalA, GD, callA, LB]; exact .inl (goCall_pure c60 rfl ⟨rfl, rfl, rfl⟩)) (by simp only [PS]; rfl) ?_
  iterate 2 refine op (by simp only [go_sem, simprocAttr]; and_intros <;> first | rfl | trivial) (by simp only [PS]; rfl) ?_
  refine aops_done (hK3 _ _ _ ?_)
  refine awp_block ?_
  refine awp_loop (fun Fz Lz Nz => ∃ k : Nat, k ≤ P.length ∧ Fz = (.any :: .any :: .ptr 0 0 :: .any :: .any :: .ptr 1 0 :: .any :: .any :: .any :: .any :: .any :: .any :: .any :: .any :: .any :: .any :: .p (.sl P.length (encP P)) :: .p (.int .i64 (P.length : Int)) :: .p (.int .i64 ((k : Nat) : Int)) :: .any :: .any :: .any :: .any :: .any :: .any :: .any :: .any :: .any :: .any :: .any :: .any :: .any :: .any :: .any :: .any :: .any :: .any :: .any :: .any :: .any :: .any :: .any :: .any :: .any :: .any :: .any :: .any :: .any :: .any :: .any :: .any :: .any :: .any :: .any :: .any :: .any :: .any :: .any :: .any :: .any :: .any :: []) ∧ Lz = [(0, some ⟨26, 0, [.p (ringP s.outer), .p (ringsP s.holes)]⟩), (1, some ⟨129, 0, List.map AV.p (tabP (Geo.pairsT (P.take k)))⟩)] ∧ Nz = 2) (fun Fz _ => P.length - ctr 18 Fz) ?_ ?_
  · refine ⟨_, _, _, ?w1, ⟨0, Nat.zero_le _, rfl, rfl, rfl⟩⟩
    refine weak_ren [(0, some 0), (1, some 3)] (by kernel_rfl) ?_ ?_ <;> simp only [go_sem, simprocAttr, List.take_zero, t00, relL_p] <;> (and_intros <;> first | rfl | exact ⟨_, rfl, rfl⟩)
  rintro _ _ _ ⟨k, hk, rfl, rfl, rfl⟩
  refine pl 3 (by kernel_rfl) rfl fun K4 hK4 => ?_
  refine op (by simp only [go_sem, simprocAttr]; and_intros <;> first | rfl | trivial) (by simp only [PS]; rfl) ?_
  refine aops_done (hK4 _ _ _ ?_)
  refine awp_seq_k fun K5 hK5 => ?_
  refine awp_cond (b := decide ((k : Int) < (P.length : Int))) (by simp only [evalA, GD] <;> rfl) (fun h1 => ?_) (fun h1 => ?_)
  · skip
    have hlt : k < P.length := by have := of_decide_eq_true h1; omega
    have x0 : (0 : Int) ≤ (k : Int) := by omega
    have x1 : (k : Int) < (P.length : Int) := by omega
    have x2 := encP_at hlt
    have d0 : (0 : Int) < ((2 : Nat) : Int) := by decide
    have d1 : (1 : Int) < ((2 : Nat) : Int) := by decide
    have x8 := wrap_succ (show k ≤ 1000000 by omega)
    have hp80 := hP80 _ (List.getElem_mem hlt)
    have c136 := sat_joinP (Geo.pairsT (P.take k)) hp80.1 hp80.2
    rw [pairsT_succ P hlt] at c136
    refine awp_skip ?_
    try simp only
    refine hK5 _ _ _ ?_
    refine awp_seq_k fun K6 hK6 => ?_
    refine awp_block ?_
    refine pl 7 (by kernel_rfl) rfl fun K7 hK7 => ?_
    iterate 2 refine op (by simp only [go_sem, simprocAttr, x0, x1, x2]; and_intros <;> first | rfl | trivial) (by simp only [PS]; rfl) ?_
    refine st 5 3 rfl rfl rfl (by simp only [AOp, allocA, LA, T67]; and_intros <;> first | rfl | trivial) (by simp only [PS]; rfl) (by simp only [GS]; rfl) ?_
    refine st 6 4 rfl rfl rfl (by simp only [AOp, evalA, GD, storeA, cellsA, setA, LC, LB, look, LA, ↓reduceIte, Nat.reduceAdd, T67, x1]; and_intros <;> first | rfl | trivial) (by simp only [PS]; rfl) (by simp only [GS]; rfl) ?_
    refine aops_done (hK7 _ _ _ ?_)
    refine ple 13 (by kernel_rfl) rfl fun K8 hK8 => ?_
    iterate 5 refine op (by simp only [go_sem, simprocAttr]; and_intros <;> first | rfl | trivial) (by simp only [PS]; rfl) ?_
    refine st 12 6 rfl rfl rfl (by simp only [AOp, evalA, GD, callA, LB]; exact .inl (goCall_box rfl rfl c136 ⟨rfl, rfl, rfl⟩)) (by simp only [PS]; rfl) (by simp only [GS]; rfl) ?_
    refine aops_done (hK8 _ _ _ ?_)
    try simp only
    refine hK6 _ _ _ ?_
    refine ple 15 (by kernel_rfl) rfl fun K9 hK9 => ?_
    iterate 2 refine op (by simp only [go_sem, simprocAttr, x8]; and_intros <;> first | rfl | trivial) (by simp only [PS]; rfl) ?_
    refine aops_done (hK9 _ _ _ ?_)
    try simp only
    refine ⟨_, _, _, ?w2, ⟨k + 1, by omega, rfl, rfl, rfl⟩, ?m2⟩
    case m2 => simp only [ctr, List.getD_cons_succ, List.getD_cons_zero, Int.toNat_natCast]; omega
    case w2 =>
      refine weak_ren [(0, some 0), (1, some 1)] (by kernel_rfl) ?_ ?_ <;> simp only [go_sem, simprocAttr, relL_p] <;> (and_intros <;> first | rfl | exact ⟨_, rfl, rfl⟩)
  · skip
    have hkl : k = P.length := by
      have h2 : ¬ ((k : Int) < (P.length : Int)) := of_decide_eq_false h1
      omega
    subst hkl
    rw [List.take_length]
    refine awp_exit ?_
    try simp only [IF]
    refine hK2 _ _ _ ?_
    refine pl 4 (by kernel_rfl) rfl fun K10 hK10 => ?_
    refine op (by simp only [go_sem, simprocAttr]; and_intros <;> first | rfl | trivial) (by simp only [PS]; rfl) ?_
    refine aops_done (hK10 _ _ _ ?_)
    refine awp_seq_k fun K11 hK11 => ?_
    refine pl 9 (by kernel_rfl) rfl fun K12 hK12 => ?_
    refine op (by simp only [go_sem, simprocAttr]; and_intros <;> first | rfl | trivial) (by simp only [PS]; rfl) ?_
    refine sp 2 rfl rfl (by simp only [AOp, evalA, GD, callA, LB]; exact .inl (goCall_pure c57 rfl ⟨rfl, rfl, rfl⟩)) (by simp only [PS]; rfl) ?_
    refine sp 3 rfl rfl (by simp only [AOp, evalA, GD, callA, LB]; exact .inl (goCall_pure c56 rfl ⟨rfl, rfl, rfl⟩)) (by simp only [PS]; rfl) ?_
    iterate 2 refine op (by simp only [go_sem, simprocAttr]; and_intros <;> first | rfl | trivial) (by simp only [PS]; rfl) ?_
    refine aops_done (hK12 _ _ _ ?_)
    refine awp_block ?_
    refine awp_loop (fun Fz Lz Nz => ∃ j : Nat, j ≤ R.length ∧ Fz = (.any :: .any :: .any :: .any :: .any :: .ptr 1 0 :: .any :: .any :: .p (.int .i64 ((R.take j).flatten.length : Int)) :: .any :: .any :: .any :: .any :: .any :: .any :: .any :: .any :: .any :: .any :: .any :: .any :: .any :: .any :: .any :: .any :: .any :: .any :: .any :: .any :: .any :: .any :: .p (.sl R.length (R.map ringP)) :: .p (.int .i64 (R.length : Int)) :: .p (.int .i64 ((j : Nat) : Int)) :: .any :: .any :: .any :: .any :: .any :: .any :: .any :: .any :: .any :: .any :: .any :: .any :: .any :: .any :: .any :: .any :: .any :: .any :: .any :: .any :: .any :: .any :: .any :: .any :: .any :: .any :: .any :: []) ∧ Lz = [(1, some ⟨129, 0, List.map AV.p (tabP (Geo.ringsT (Geo.pairsT P) 0 (R.take j)))⟩)] ∧ Nz = 2) (fun Fz _ => R.length - ctr 33 Fz) ?_ ?_
    · refine ⟨_, _, _, ?w3, ⟨0, Nat.zero_le _, rfl, rfl, rfl⟩⟩
      refine weak_ren [(1, some 1)] (by kernel_rfl) ?_ ?_ <;> simp only [go_sem, simprocAttr, List.take_zero, Geo.ringsT, List.flatten_nil, List.length_nil, relL_p] <;> (and_intros <;> first | rfl | exact ⟨_, rfl, rfl⟩)
    rintro _ _ _ ⟨j, hj, rfl, rfl, rfl⟩
    refine pl 3 (by kernel_rfl) rfl fun K13 hK13 => ?_
    refine op (by simp only [go_sem, simprocAttr]; and_intros <;> first | rfl | trivial) (by simp only [PS]; rfl) ?_
    refine aops_done (hK13 _ _ _ ?_)
    refine awp_seq_k fun K14 hK14 => ?_
    refine awp_cond (b := decide ((j : Int) < (R.length : Int))) (by simp only [evalA, GD] <;> rfl) (fun h3 => ?_) (fun h3 => ?_)
    · skip
      have hlt : j < R.length := by have := of_decide_eq_true h3; omega
      have y0 : (0 : Int) ≤ (j : Int) := by omega
      have y1 : (j : Int) < (R.length : Int) := by omega
      have y2 : (R.map ringP)[j]? = some (.sl R[j].length (encV R[j])) := by rw [List.getElem?_map, List.getElem?_eq_getElem hlt]; rfl
      have y8 := wrap_succ (show j ≤ 1000000 by omega)
      have hat : (R.take j).flatten.length + R[j].length = (R.take (j + 1)).flatten.length := by rw [flat_snoc R hlt, List.length_append]
      have hat2 := flat_take_le R (j + 1)
      have hst := ringsT_succ R (Geo.pairsT P) hlt
      refine awp_skip ?_
      try simp only
      refine hK14 _ _ _ ?_
      refine awp_seq_k fun K15 hK15 => ?_
      refine awp_block ?_
      refine pl 6 (by kernel_rfl) rfl fun K16 hK16 => ?_
      iterate 3 refine op (by simp only [go_sem, simprocAttr, y0, y1, y2]; and_intros <;> first | rfl | trivial) (by simp only [PS]; rfl) ?_
      refine aops_done (hK16 _ _ _ ?_)
      refine awp_seq_k fun K17 hK17 => ?_
      refine pl 9 (by kernel_rfl) rfl fun K18 hK18 => ?_
      iterate 3 refine op (by simp only [go_sem, simprocAttr]; and_intros <;> first | rfl | trivial) (by simp only [PS]; rfl) ?_
      refine aops_done (hK18 _ _ _ ?_)
      refine awp_block ?_
      refine awp_loop (fun Fz Lz Nz => ∃ q : Nat, q ≤ R[j].length ∧ Fz = (.any :: .any :: .any :: .any :: .any :: .ptr 1 0 :: .any :: .any :: .p (.int .i64 ((R.take j).flatten.length : Int)) :: .any :: .p (.sl R[j].length (encV R[j])) :: .any :: .any :: .any :: .any :: .any :: .any :: .any :: .any :: .any :: .any :: .any :: .any :: .any :: .any :: .any :: .any :: .any :: .any :: .any :: .any :: .p (.sl R.length (R.map ringP)) :: .p (.int .i64 (R.length : Int)) :: .p (.int .i64 ((j : Nat) : Int)) :: .any :: .any :: .any :: .any :: .p (.int .i64 (R[j].length : Int)) :: .p (.int .i64 ((q : Nat) : Int)) :: .any :: .any :: .any :: .any :: .any :: .any :: .any :: .any :: .any :: .any :: .any :: .any :: .any :: .any :: .any :: .any :: .any :: .any :: .any :: .any :: .any :: []) ∧ Lz = [(1, some ⟨129, 0, List.map AV.p (tabP (Geo.ringT (Geo.ringsT (Geo.pairsT P) 0 (R.take j)) R[j].length (R.take j).flatten.length q))⟩)] ∧ Nz = 2) (fun Fz _ => R[j].length - ctr 39 Fz) ?_ ?_
      · refine ⟨_, _, _, ?w4, ⟨0, Nat.zero_le _, rfl, rfl, rfl⟩⟩
        refine weak_ren [(1, some 1)] (by kernel_rfl) ?_ ?_ <;> simp only [go_sem, simprocAttr, Geo.ringT, relL_p] <;> (and_intros <;> first | rfl | exact ⟨_, rfl, rfl⟩)
      rintro _ _ _ ⟨q, hq, rfl, rfl, rfl⟩
      refine pl 3 (by kernel_rfl) rfl fun K19 hK19 => ?_
      refine op (by simp only [go_sem, simprocAttr]; and_intros <;> first | rfl | trivial) (by simp only [PS]; rfl) ?_
      refine aops_done (hK19 _ _ _ ?_)
      refine awp_seq_k fun K20 hK20 => ?_
      refine awp_cond (b := decide ((q : Int) < (R[j].length : Int))) (by simp only [evalA, GD] <;> rfl) (fun h5 => ?_) (fun h5 => ?_)
      · skip
        have hltq : q < R[j].length := by have := of_decide_eq_true h5; omega
        have z8 := wrap_succ (show q ≤ 1000000 by omega)
        have hmod : (q + 1) % R[j].length < R[j].length := Nat.mod_lt _ (by omega)
        have w0 : IntKind.i64.wrap (((R.take j).flatten.length : Int) + (q : Int)) = (((R.take j).flatten.length + q : Nat) : Int) := by rw [← wrap_nat (show (R.take j).flatten.length + q ≤ 1000000 by omega)]; simp
        have w1 : (R[j].length : Int) ≠ 0 := by omega
        have w2 : Int.tmod ((q + 1 : Nat) : Int) (R[j].length : Int) = (((q + 1) % R[j].length : Nat) : Int) := by rw [Int.ofNat_tmod]
        have w3 : IntKind.i64.wrap (((R.take j).flatten.length : Int) + (((q + 1) % R[j].length : Nat) : Int)) = (((R.take j).flatten.length + (q + 1) % R[j].length : Nat) : Int) := by rw [← wrap_nat (show (R.take j).flatten.length + (q + 1) % R[j].length ≤ 1000000 by omega)]; simp
        have c136 := sat_joinP (Geo.ringT (Geo.ringsT (Geo.pairsT P) 0 (R.take j)) R[j].length (R.take j).flatten.length q) (show (R.take j).flatten.length + q < 80 by omega) (show (R.take j).flatten.length + (q + 1) % R[j].length < 80 by omega)
        replace c136 : SatM Tryz.prog 136 none [.int .i64 (((R.take j).flatten.length + q : Nat) : Int), .int .i64 (((R.take j).flatten.length + (q + 1) % R[j].length : Nat) : Int)] 129 0 (tabP (Geo.ringT (Geo.ringsT (Geo.pairsT P) 0 (R.take j)) R[j].length (R.take j).flatten.length q)) (tabP (Geo.ringT (Geo.ringsT (Geo.pairsT P) 0 (R.take j)) R[j].length (R.take j).flatten.length (q + 1))) := c136
        refine awp_skip ?_
        try simp only
        refine hK20 _ _ _ ?_
        refine awp_seq_k fun K21 hK21 => ?_
        refine awp_block ?_
        refine pl 5 (by kernel_rfl) rfl fun K22 hK22 => ?_
        iterate 2 refine op (by simp only [go_sem, simprocAttr]; and_intros <;> first | rfl | trivial) (by simp only [PS]; rfl) ?_
        refine aops_done (hK22 _ _ _ ?_)
        refine ple 17 (by kernel_rfl) rfl fun K23 hK23 => ?_
        iterate 11 refine op (by simp only [go_sem, simprocAttr, w0, z8, w1, w2, w3]; and_intros <;> first | rfl | trivial) (by simp only [PS]; rfl) ?_
        refine st 16 12 rfl rfl rfl (by simp only [AOp, evalA, GD, callA, LB]; exact .inl (goCall_box rfl rfl c136 ⟨rfl, rfl, rfl⟩)) (by simp only [PS]; rfl) (by simp only [GS]; rfl) ?_
        refine aops_done (hK23 _ _ _ ?_)
        try simp only
        refine hK21 _ _ _ ?_
        refine ple 19 (by kernel_rfl) rfl fun K24 hK24 => ?_
        iterate 2 refine op (by simp only [go_sem, simprocAttr, z8]; and_intros <;> first | rfl | trivial) (by simp only [PS]; rfl) ?_
        refine aops_done (hK24 _ _ _ ?_)
        try simp only
        refine ⟨_, _, _, ?w5, ⟨q + 1, by omega, rfl, rfl, rfl⟩, ?m5⟩
        case m5 => simp only [ctr, List.getD_cons_succ, List.getD_cons_zero, Int.toNat_natCast]; omega
        case w5 =>
          refine weak_ren [(1, some 1)] (by kernel_rfl) ?_ ?_ <;> simp only [go_sem, simprocAttr, relL_p] <;> (and_intros <;> first | rfl | exact ⟨_, rfl, rfl⟩)
      · skip
        have hkq : q = R[j].length := by
          have h6 : ¬ ((q : Int) < (R[j].length : Int)) := of_decide_eq_false h5
          omega
        subst hkq
        rw [← hst]
        have w5 : IntKind.i64.wrap (((R.take j).flatten.length : Int) + (R[j].length : Int)) = ((R.take (j + 1)).flatten.length : Int) := by rw [← hat, ← wrap_nat (show (R.take j).flatten.length + R[j].length ≤ 1000000 by omega)]; simp
        refine awp_exit ?_
        try simp only [IF, Nat.reduceEqDiff]
        refine hK17 _ _ _ ?_
        refine ple 8 (by kernel_rfl) rfl fun K25 hK25 => ?_
        iterate 5 refine op (by simp only [go_sem, simprocAttr, w5]; and_intros <;> first | rfl | trivial) (by simp only [PS]; rfl) ?_
        refine aops_done (hK25 _ _ _ ?_)
        try simp only
        refine hK15 _ _ _ ?_
        refine ple 10 (by kernel_rfl) rfl fun K26 hK26 => ?_
        iterate 2 refine op (by simp only [go_sem, simprocAttr, y8]; and_intros <;> first | rfl | trivial) (by simp only [PS]; rfl) ?_
        refine aops_done (hK26 _ _ _ ?_)
        try simp only
        refine ⟨_, _, _, ?w6, ⟨j + 1, by omega, rfl, rfl, rfl⟩, ?m6⟩
        case m6 => simp only [ctr, List.getD_cons_succ, List.getD_cons_zero, Int.toNat_natCast]; omega
        case w6 =>
          refine weak_ren [(1, some 1)] (by kernel_rfl) ?_ ?_ <;> simp only [go_sem, simprocAttr, relL_p] <;> (and_intros <;> first | rfl | exact ⟨_, rfl, rfl⟩)
    · skip
      have hkl : j = R.length := by
        have h4 : ¬ ((j : Int) < (R.length : Int)) := of_decide_eq_false h3
        omega
      subst hkl
      rw [List.take_length]
      refine awp_exit ?_
      try simp only [IF]
      refine hK11 _ _ _ ?_
      refine pl 5 (by kernel_rfl) rfl fun K27 hK27 => ?_
      iterate 2 refine op (by simp only [go_sem, simprocAttr]; and_intros <;> first | rfl | trivial) (by simp only [PS]; rfl) ?_
      refine aops_done (hK27 _ _ _ ?_)
      refine awp_ret ?_
      try simp only [IF, reduceCtorEq, Nat.reduceEqDiff]
      simp only [retP, resA, List.getD_cons_succ, List.getD_cons_zero, optM, snap, look, Option.bind_some, Option.map_some, optM_p, Option.some.injEq, exists_eq_left', outP, ↓reduceIte]
def tF (T : Geo.Tab) : Nat → Bool := fun k => T (k / 80) (k % 80)
noncomputable def c61 : Con := con (ac aSh (a1 (aL .V))) (fun (s, v) => [Fit s, Geo.validSP s = true, v.length ≤ 80, (∀ x ∈ v, bd 1000000000 x)]) (fun (s, v) => .ptb (tF (Geo.joinedP s v)) 6400 0)
theorem k61 : c61.Ok Tryz.prog 61 := by
  intro xs x hd hp
  obtain ⟨s, v⟩ := x
  obtain ⟨h1, h2, h3, h4⟩ : Fit s ∧ Geo.validSP s = true ∧ v.length ≤ 80 ∧ ∀ x ∈ v, bd 1000000000 x := (andL_iff (l := [Fit s, Geo.validSP s = true, v.length ≤ 80, (∀ x ∈ v, bd 1000000000 x)])).2 hp
  refine ⟨[shapeP s, .sl v.length (encV v)], _, ?_, rfl, sat_joined s h1 h2 v h3 ?_ h4⟩
  · rw [(ac aSh (a1 (aL .V))).ok xs (s, v) hd]
    show [(aSh.enc s).av, _] = _
    rw [av_sh]; rfl
  · exact vs_verts ((Geo.validSP_iff s).1 h2)
noncomputable def t61 : Tab := tabL [(61, c61)] t62
theorem t61o : t61.Ok Tryz.prog := tabL_ok t62o ⟨k61, trivial⟩
end Go.Proofs.YtdaeofhdgabhjaaGreat
namespace Go.Proofs.YtdaeofhdgabhjaaGreat
open Go.RowKit
open Geo (nth)
def bK (s : Geo.Shape) (v : List Geo.V) (T : Geo.Tab) (i j k : Nat) : Bool := T i k && (T j k && Geo.emptyP s v i j k)
noncomputable def c21 : Con := con (a1 aSh) (fun s => [Fit s]) (fun s => .tup [.lst .R (tOf s), .int .i64 (eOf s)])
set_option maxRecDepth 100000 in
set_option maxHeartbeats 2000000 in
theorem k21 : c21.Ok Tryz.prog 21 := con_ok (cx_ok t61o) (raw := noRaw) (fun s => [(8, .mk Nat (fun F _ => natAt F 26) [23] (fun i => [i ≤ (vOf s).length]) (fun i => [(26, .int .i64 (i : Int)), (8, .own 23 .R (iAcc s (vOf s) (tT s) i).length)]) (fun i => [(23, .row 23 .R (iAcc s (vOf s) (tT s) i))]) (fun i => (vOf s).length - i) fun i =>
  [(11, .mk Nat (fun F _ => natAt F 10) [23] (fun j => [i < j, j ≤ (vOf s).length]) (fun j => [(10, .int .i64 (j : Int)), (8, .own 23 .R (tJ s (vOf s) (tT s) i j).length)]) (fun j => [(23, .row 23 .R (tJ s (vOf s) (tT s) i j))]) (fun j => (vOf s).length - j) fun j =>
  [(14, .mk Nat (fun F _ => natAt F 11) [23] (fun k => [j < k, k ≤ (vOf s).length, tT s i j = true ∨ k = j + 1]) (fun k => [(11, .int .i64 (k : Int)), (8, .own 23 .R (tK s (vOf s) (tT s) i j k).length)]) (fun k => [(23, .row 23 .R (tK s (vOf s) (tT s) i j k))]) (fun k => (vOf s).length - k) fun k => [jb 17 76 (bK s (vOf s) (tT s) i j k)])])])]
  ) (fun _ => ⟨_, rfl⟩) fun s hp => by_vc (q := Fit s ∧ (¬ eOf s = 0 → tOf s = ([] : List (List Geo.V)) ∧ eOf s = eOf s) ∧
 (¬ (¬ eOf s = 0) → Fit s ∧ Geo.validSP s = true ∧ (vOf s).length ≤ 80 ∧ (∀ x : Geo.V, x ∈ vOf s → bd 1000000000 x) ∧ (0 = (0 : Int) ∧ (iAcc s (vOf s) (tT s) 0).length = 0 ∧ iAcc s (vOf s) (tT s) 0 = ([] : List (List Geo.V)) ∧ (0 : Nat) ≤ (vOf s).length) ∧
  (∀ x : Nat, x ≤ (vOf s).length → ((x : Int) < (vOf s).length → in64 ((x : Int) + 1) ∧ ((x : Int) + 1 = ((x + 1 : Nat) : Int) ∧ (iAcc s (vOf s) (tT s) x).length = (tJ s (vOf s) (tT s) x (x + 1)).length ∧ iAcc s (vOf s) (tT s) x = tJ s (vOf s) (tT s) x (x + 1) ∧ x < x + 1 ∧ x + 1 ≤ (vOf s).length) ∧
    (∀ x_1 : Nat, x < x_1 ∧ x_1 ≤ (vOf s).length → ((x_1 : Int) < (vOf s).length → in64 ((x_1 : Int) + 1) ∧ ((x_1 : Int) + 1 = ((x_1 + 1 : Nat) : Int) ∧ (tJ s (vOf s) (tT s) x x_1).length = (tK s (vOf s) (tT s) x x_1 (x_1 + 1)).length ∧ tJ s (vOf s) (tT s) x x_1 = tK s (vOf s) (tT s) x x_1 (x_1 + 1) ∧ x_1 < x_1 + 1 ∧ x_1 + 1 ≤ (vOf s).length ∧ (tT s x x_1 = true ∨ x_1 + 1 = x_1 + 1)) ∧
      (∀ x_2 : Nat, x_1 < x_2 ∧ x_2 ≤ (vOf s).length ∧ (tT s x x_1 = true ∨ x_2 = x_1 + 1) → ((x_2 : Int) < (vOf s).length → ix (x : Int) 80 ∧ ix (x_1 : Int) 80 ∧ 0 + x * 80 + x_1 * 1 < 6400 ∧ (tF (Geo.joinedP s (vOf s)) (0 + x * 80 + x_1 * 1) = true → (ix (x : Int) 80 ∧ ix (x_2 : Int) 80 ∧ 0 + x * 80 + x_2 * 1 < 6400 ∧ (tF (Geo.joinedP s (vOf s)) (0 + x * 80 + x_2 * 1) = true → ix (x_1 : Int) 80 ∧ ix (x_2 : Int) 80 ∧ 0 + x_1 * 80 + x_2 * 1 < 6400 ∧ (tF (Geo.joinedP s (vOf s)) (0 + x_1 * 80 + x_2 * 1) = true → x < (vOf s).length ∧ x_1 < (vOf s).length ∧ x_2 < (vOf s).length ∧ (vOf s).length ≤ 900 ∧ (∀ x : Geo.V, x ∈ vOf s → bd 1000000000 x) ∧ Fit s ∧ Geo.emptyP s (vOf s) x x_1 x_2 = bK s (vOf s) (tT s) x x_1 x_2) ∧
           (tF (Geo.joinedP s (vOf s)) (0 + x_1 * 80 + x_2 * 1) = false → false = bK s (vOf s) (tT s) x x_1 x_2)) ∧
          (tF (Geo.joinedP s (vOf s)) (0 + x * 80 + x_2 * 1) = false → false = bK s (vOf s) (tT s) x x_1 x_2)) ∧
         (∀ y : Unit, (bK s (vOf s) (tT s) x x_1 x_2 = true → ix (x : Int) (vOf s).length ∧ ix (x_1 : Int) (vOf s).length ∧ ix (x_2 : Int) (vOf s).length ∧ bd 1000000000 (nth (vOf s) x) ∧ bd 1000000000 (nth (vOf s) x_1) ∧ bd 1000000000 (nth (vOf s) x_2) ∧ (tK s (vOf s) (tT s) x x_1 x_2).length = (tK s (vOf s) (tT s) x x_1 x_2).length ∧ (tK s (vOf s) (tT s) x x_1 x_2).length + [Geo.triP (nth (vOf s) x) (nth (vOf s) x_1) (nth (vOf s) x_2)].length ≤ 1000000 ∧ in64 ((x_2 : Int) + 1) ∧ (x_2 : Int) + 1 = ((x_2 + 1 : Nat) : Int) ∧ (tK s (vOf s) (tT s) x x_1 x_2 ++ [Geo.triP (nth (vOf s) x) (nth (vOf s) x_1) (nth (vOf s) x_2)]).length = (tK s (vOf s) (tT s) x x_1 (x_2 + 1)).length ∧ tK s (vOf s) (tT s) x x_1 x_2 ++ [Geo.triP (nth (vOf s) x) (nth (vOf s) x_1) (nth (vOf s) x_2)] = tK s (vOf s) (tT s) x x_1 (x_2 + 1) ∧ x_1 < x_2 + 1 ∧ x_2 + 1 ≤ (vOf s).length ∧ (tT s x x_1 = true ∨ x_2 + 1 = x_1 + 1) ∧ (vOf s).length - (x_2 + 1) < (vOf s).length - x_2) ∧
          (bK s (vOf s) (tT s) x x_1 x_2 = false → in64 ((x_2 : Int) + 1) ∧ (x_2 : Int) + 1 = ((x_2 + 1 : Nat) : Int) ∧ (tK s (vOf s) (tT s) x x_1 x_2).length = (tK s (vOf s) (tT s) x x_1 (x_2 + 1)).length ∧ tK s (vOf s) (tT s) x x_1 x_2 = tK s (vOf s) (tT s) x x_1 (x_2 + 1) ∧ x_1 < x_2 + 1 ∧ x_2 + 1 ≤ (vOf s).length ∧ (tT s x x_1 = true ∨ x_2 + 1 = x_1 + 1) ∧ (vOf s).length - (x_2 + 1) < (vOf s).length - x_2))) ∧
        (tF (Geo.joinedP s (vOf s)) (0 + x * 80 + x_1 * 1) = false → in64 ((x_1 : Int) + 1) ∧ (x_1 : Int) + 1 = ((x_1 + 1 : Nat) : Int) ∧ (tK s (vOf s) (tT s) x x_1 x_2).length = (tJ s (vOf s) (tT s) x (x_1 + 1)).length ∧ tK s (vOf s) (tT s) x x_1 x_2 = tJ s (vOf s) (tT s) x (x_1 + 1) ∧ x < x_1 + 1 ∧ x_1 + 1 ≤ (vOf s).length ∧ (vOf s).length - (x_1 + 1) < (vOf s).length - x_1)) ∧
       (¬ (x_2 : Int) < (vOf s).length → in64 ((x_1 : Int) + 1) ∧ (x_1 : Int) + 1 = ((x_1 + 1 : Nat) : Int) ∧ (tK s (vOf s) (tT s) x x_1 x_2).length = (tJ s (vOf s) (tT s) x (x_1 + 1)).length ∧ tK s (vOf s) (tT s) x x_1 x_2 = tJ s (vOf s) (tT s) x (x_1 + 1) ∧ x < x_1 + 1 ∧ x_1 + 1 ≤ (vOf s).length ∧ (vOf s).length - (x_1 + 1) < (vOf s).length - x_1))) ∧
     (¬ (x_1 : Int) < (vOf s).length → in64 ((x : Int) + 1) ∧ (x : Int) + 1 = ((x + 1 : Nat) : Int) ∧ (tJ s (vOf s) (tT s) x x_1).length = (iAcc s (vOf s) (tT s) (x + 1)).length ∧ tJ s (vOf s) (tT s) x x_1 = iAcc s (vOf s) (tT s) (x + 1) ∧ x + 1 ≤ (vOf s).length ∧ (vOf s).length - (x + 1) < (vOf s).length - x))) ∧
   (¬ (x : Int) < (vOf s).length → (iAcc s (vOf s) (tT s) x).length = (iAcc s (vOf s) (tT s) x).length ∧ (iAcc s (vOf s) (tT s) x).length ≤ 1000000 ∧ (∀ r : Geo.Ring, r ∈ iAcc s (vOf s) (tT s) x → r.length ≤ 1000) ∧ (iAcc s (vOf s) (tT s) x).length = (r68 (iAcc s (vOf s) (tT s) x, true)).length ∧ r68 (iAcc s (vOf s) (tT s) x, true) = tOf s ∧ 0 = eOf s)))) (by kernel_rfl) (by
  change Fit s at hp
  have R : ¬ ¬ eOf s = 0 → Geo.validSR s = true := fun h => eOf_yes h
  have hvP : ¬ ¬ eOf s = 0 → Geo.validSP s = true := fun h => by rw [Geo.validS_eq]; exact R h
  have t0 : ¬ eOf s = 0 → tOf s = [] := fun h => by
    unfold eOf at h; split at h
    · exact (h rfl).elim
    · exact if_neg ‹_›
  have hv := vOf_le s
  have hv9 : (vOf s).length ≤ 900 := by omega
  have hvm : ∀ x ∈ vOf s, bd 1000000000 x := fun x hx => by
    obtain ⟨i, hi, rfl⟩ := Geo.mem_nth.1 hx
    exact vOf_bd hi (by decide)
  have hb : ∀ x : Nat, (x : Int) < (vOf s).length → bd 1000000000 (nth (vOf s) x) := fun x h => vOf_bd (by omega) (by decide)
  have gF : ∀ (i j : Nat) (b : Bool), (j : Int) < (vOf s).length → tF (Geo.joinedP s (vOf s)) (0 + i * 80 + j * 1) = b → tT s i j = b := fun i j b h h2 => by
    unfold tF at h2
    rw [show (0 + i * 80 + j * 1) / 80 = i by omega, show (0 + i * 80 + j * 1) % 80 = j by omega] at h2
    exact h2
  have x80 : ∀ i : Nat, (i : Int) < (vOf s).length → ix (i : Int) 80 := fun i h => ix_nat (by omega)
  have xvl : ∀ i : Nat, (i : Int) < (vOf s).length → ix (i : Int) (vOf s).length := fun i h => ix_nat (by omega)
  have i64 : ∀ i : Nat, (i : Int) < (vOf s).length → in64 ((i : Int) + 1) := fun i h => i64w (by omega)
  have kS : ∀ i j k : Nat, j < k → tK s (vOf s) (tT s) i j (k + 1) = if bK s (vOf s) (tT s) i j k = true then tK s (vOf s) (tT s) i j k ++ [Geo.triP (nth (vOf s) i) (nth (vOf s) j) (nth (vOf s) k)] else tK s (vOf s) (tT s) i j k := fun i j k h => by rw [tK_succ h]; rfl
  have kY : ∀ i j k : Nat, j < k → bK s (vOf s) (tT s) i j k = true → tK s (vOf s) (tT s) i j k ++ [Geo.triP (nth (vOf s) i) (nth (vOf s) j) (nth (vOf s) k)] = tK s (vOf s) (tT s) i j (k + 1) := fun i j k h h2 => by rw [kS i j k h, if_pos h2]
  have kN : ∀ i j k : Nat, j < k → bK s (vOf s) (tT s) i j k = false → tK s (vOf s) (tT s) i j k = tK s (vOf s) (tT s) i j (k + 1) := fun i j k h h2 => by rw [kS i j k h, if_neg (by rw [h2]; simp)]
  have kZ : ∀ i j : Nat, tT s i j = false → i < j → tK s (vOf s) (tT s) i j (j + 1) = tJ s (vOf s) (tT s) i (j + 1) := fun i j h h2 => tK_zero.trans (tJ_no h h2)
  have kE : ∀ i j k : Nat, ¬ (k : Int) < (vOf s).length → k ≤ (vOf s).length → (tT s i j = true ∨ k = j + 1) → i < j → tK s (vOf s) (tT s) i j k = tJ s (vOf s) (tT s) i (j + 1) := fun i j k h1 h2 h3 h4 => by
    cases hT : tT s i j with
    | true => exact tK_end h1 hT h4 h2
    | false =>
      rcases h3 with h3 | rfl
      · rw [hT] at h3; cases h3
      · exact kZ i j hT h4
  have kF : ∀ i j k : Nat, (j : Int) < (vOf s).length → tF (Geo.joinedP s (vOf s)) (0 + i * 80 + j * 1) = false → (tT s i j = true ∨ k = j + 1) → i < j → tK s (vOf s) (tT s) i j k = tJ s (vOf s) (tT s) i (j + 1) := fun i j k h1 h2 h3 h4 => by
    have hT := gF i j _ h1 h2
    rcases h3 with h3 | rfl
    · rw [hT] at h3; cases h3
    · exact kZ i j hT h4
  have jE : ∀ i j : Nat, ¬ (j : Int) < (vOf s).length → j ≤ (vOf s).length → tJ s (vOf s) (tT s) i j = iAcc s (vOf s) (tT s) (i + 1) := fun i j h1 h2 => tJ_end h1 h2
  have bE : ∀ i j k : Nat, (k : Int) < (vOf s).length → tF (Geo.joinedP s (vOf s)) (0 + i * 80 + k * 1) = true → tF (Geo.joinedP s (vOf s)) (0 + j * 80 + k * 1) = true → Geo.emptyP s (vOf s) i j k = bK s (vOf s) (tT s) i j k := fun i j k h h1 h2 => by
    unfold bK; rw [gF i k _ h h1, gF j k _ h h2]; rfl
  have bN1 : ∀ i j k : Nat, (k : Int) < (vOf s).length → tF (Geo.joinedP s (vOf s)) (0 + i * 80 + k * 1) = false → false = bK s (vOf s) (tT s) i j k := fun i j k h h1 => by
    unfold bK; rw [gF i k _ h h1]; rfl
  have bN2 : ∀ i j k : Nat, (k : Int) < (vOf s).length → tF (Geo.joinedP s (vOf s)) (0 + j * 80 + k * 1) = false → false = bK s (vOf s) (tT s) i j k := fun i j k h h1 => by
    unfold bK; rw [gF j k _ h h1]; simp
  have kL : ∀ i j k : Nat, (i : Int) < (vOf s).length → (j : Int) < (vOf s).length → k ≤ (vOf s).length → (tK s (vOf s) (tT s) i j k).length ≤ 600000 := fun i j k h1 h2 h3 => by
    have := tK_len (s := s) (T := tT s) (i := i) (j := j) (k := k) (show (vOf s).length ≤ 80 from hv) (by omega) (by omega) h3
    rwa [(Geo.sortR_perm _).length_eq] at this
  have iL : ∀ i : Nat, i ≤ (vOf s).length → (iAcc s (vOf s) (tT s) i).length ≤ 600000 := fun i h => by
    have h3 := iAcc_length s (vOf s) (tT s) i
    have h4 : (vOf s).length * (vOf s).length ≤ 80 * 80 := Nat.mul_le_mul hv hv
    have h5 : i * ((vOf s).length * (vOf s).length) ≤ 80 * (80 * 80) := Nat.mul_le_mul (by omega) h4
    omega
  have iM : ∀ i : Nat, ∀ r ∈ iAcc s (vOf s) (tT s) i, r.length ≤ 1000 := fun i r hr => by have := iAcc_small s (vOf s) (tT s) i r hr; omega
  have iE : ¬ ¬ eOf s = 0 → ∀ i : Nat, ¬ (i : Int) < (vOf s).length → i ≤ (vOf s).length → r68 (iAcc s (vOf s) (tT s) i, true) = tOf s := fun h i h1 h2 => by
    unfold tOf; rw [if_pos (R h), show i = (vOf s).length by omega]; rfl
  have r68L : ∀ l, (r68 (l, true)).length = l.length := fun l => (Geo.sortR_perm l).length_eq
  have z0 := fun i => @tJ_zero s (vOf s) (tT s) i
  have z1 := fun i j => @tK_zero s (vOf s) (tT s) i j
  have hf := hp
  clear hp kS kZ R
  repeat' first | with_reducible apply And.intro | with_reducible intro
  all_goals repeat with_reducible cases ‹_ < _ ∧ _›
  all_goals repeat with_reducible cases ‹_ ≤ _ ∧ _›
  all_goals first | assumption | rfl | omega | exact t0 ‹_› | exact hvP ‹_› | exact hvm _ ‹_› | exact hb _ ‹_› | (unfold ix; omega) | (unfold in64; omega) | exact (z0 _).symm | exact (z1 _ _).symm | exact congrArg List.length (z0 _).symm | exact congrArg List.length (z1 _ _).symm | exact .inr rfl | exact .inl (gF _ _ _ ‹_› ‹_›) | exact kY _ _ _ ‹_› ‹_› | exact congrArg List.length (kY _ _ _ ‹_› ‹_›) | exact kN _ _ _ ‹_› ‹_› | exact congrArg List.length (kN _ _ _ ‹_› ‹_›) | exact kF _ _ _ ‹_› ‹_› ‹_› ‹_› | exact congrArg List.length (kF _ _ _ ‹_› ‹_› ‹_› ‹_›) | exact kE _ _ _ ‹_› ‹_› ‹_› ‹_› | exact congrArg List.length (kE _ _ _ ‹_› ‹_› ‹_› ‹_›) | exact jE _ _ ‹_› ‹_› | exact congrArg List.length (jE _ _ ‹_› ‹_›) | exact bE _ _ _ ‹_› ‹_› ‹_› | exact bN1 _ _ _ ‹_› ‹_› | exact bN2 _ _ _ ‹_› ‹_› | exact Nat.le_trans (Nat.add_le_add_right (kL _ _ _ ‹_› ‹_› ‹_›) 1) (by decide) | exact Nat.le_trans (iL _ ‹_›) (by decide) | exact iM _ _ ‹_› | exact (r68L _).symm | exact iE ‹_› _ ‹_› ‹_› | exact (Decidable.of_not_not ‹¬ ¬ eOf s = 0›).symm)
noncomputable def t21 : Tab := tabL [(21, c21)] t61
theorem t21o : t21.Ok Tryz.prog := tabL_ok t61o ⟨k21, trivial⟩
end Go.Proofs.YtdaeofhdgabhjaaGreat
namespace Go.Proofs.YtdaeofhdgabhjaaGreat.Geo
structure P3 where
  x : Int
  y : Int
  d : Int
def ev (h p : P3) : Int := h.x * p.x + h.y * p.y + h.d * p.d
def cmb (m : Int) (p : P3) (n : Int) (q : P3) : P3 := ⟨m * p.x + n * q.x, m * p.y + n * q.y, m * p.d + n * q.d⟩
def Sat (L : List P3) : Prop := ∃ p : P3, 0 < p.d ∧ ∀ h ∈ L, 0 < ev h p
def pos (n : Int) : Int := if 0 < n then n else 0
def mix (a b c e : Int) (p q r s : P3) : P3 := ⟨a * p.x + b * q.x + c * r.x + e * s.x, a * p.y + b * q.y + c * r.y + e * s.y, a * p.d + b * q.d + c * r.d + e * s.d⟩
theorem Sat.sub {L M : List P3} (h : Sat L) (hs : ∀ x ∈ M, x ∈ L) : Sat M := by
  obtain ⟨p, hp, f⟩ := h
  exact ⟨p, hp, fun x hx => f x (hs x hx)⟩
end Go.Proofs.YtdaeofhdgabhjaaGreat.Geo
namespace Go.Proofs.YtdaeofhdgabhjaaGreat.Geo
def lin (u v : V) : P3 := ⟨-(v.y - u.y), v.x - u.x, (v.y - u.y) * u.x - (v.x - u.x) * u.y⟩
def pt (v : V) : P3 := ⟨v.x, v.y, 1⟩
theorem frac_le_lt {n1 d1 n2 d2 n3 d3 : Int} (h1 : 0 < d1) (h2 : 0 < d2) (h3 : 0 < d3) (a : n1 * d2 ≤ n2 * d1) (b : n2 * d3 < n3 * d2) : n1 * d3 < n3 * d1 := by
  have e1 := Int.mul_le_mul_of_nonneg_right a (show 0 ≤ d3 by omega)
  have e2 := Int.mul_lt_mul_of_pos_right b h1
  have : (n1 * d3) * d2 < (n3 * d1) * d2 := by grind
  exact Int.lt_of_mul_lt_mul_right this (by omega)
theorem frac_lt_le {n1 d1 n2 d2 n3 d3 : Int} (h1 : 0 < d1) (h2 : 0 < d2) (h3 : 0 < d3) (a : n1 * d2 < n2 * d1) (b : n2 * d3 ≤ n3 * d2) : n1 * d3 < n3 * d1 := by
  have e1 := Int.mul_lt_mul_of_pos_right a h3
  have e2 := Int.mul_le_mul_of_nonneg_right b (show 0 ≤ d1 by omega)
  have : (n1 * d3) * d2 < (n3 * d1) * d2 := by grind
  exact Int.lt_of_mul_lt_mul_right this (by omega)
def enterF : List (Int × Int) → Int → Int → Int → Int → Bool
  | [], ln, ld, hn, hd => decide (ln * hd < hn * ld)
  | (a, b) :: l, ln, ld, hn, hd =>
    if a ≤ 0 ∧ b ≤ 0 then false
    else if a < 0 then (if ln * (b - a) < -a * ld then enterF l (-a) (b - a) hn hd else enterF l ln ld hn hd)
    else if b < 0 then (if a * hd < hn * (a - b) then enterF l ln ld a (a - b) else enterF l ln ld hn hd)
    else enterF l ln ld hn hd
theorem enterF_iff : ∀ (l : List (Int × Int)) (ln ld hn hd : Int), 0 ≤ ln → 0 < ld → 0 < hd → hn ≤ hd →
    (enterF l ln ld hn hd = true ↔ ∃ x y : Int, 0 < x ∧ 0 < y ∧ (∀ p ∈ l, 0 < p.1 * x + p.2 * y) ∧ ln * (x + y) < y * ld ∧ y * hd < hn * (x + y))
  | [], ln, ld, hn, hd, h1, h2, h3, h4 => by
    simp only [enterF, decide_eq_true_eq, List.not_mem_nil, false_imp_iff, implies_true, true_and]
    constructor
    · intro h
      have hn0 : 0 < hn := by
        rcases Int.lt_or_le 0 hn with h5 | h5
        · exact h5
        · have := Int.mul_nonneg h1 (show 0 ≤ hd by omega)
          have := Int.mul_nonneg (show 0 ≤ -hn by omega) (show 0 ≤ ld by omega)
          rw [Int.neg_mul] at this; omega
      have hl : ln < ld := by
        rcases Int.lt_or_le ln ld with h5 | h5
        · exact h5
        · have e1 := Int.mul_le_mul_of_nonneg_right h5 (show 0 ≤ hd by omega)
          have e2 := Int.mul_le_mul_of_nonneg_right h4 (show 0 ≤ ld by omega)
          rw [Int.mul_comm hd ld] at e2; omega
      refine ⟨(ld - ln) + (hd - hn), ln + hn, by omega, by omega, ?_, ?_⟩
      · have : ln * ((ld - ln) + (hd - hn) + (ln + hn)) = ln * ld + ln * hd := by grind
        rw [this, Int.add_mul]; omega
      · have : hn * ((ld - ln) + (hd - hn) + (ln + hn)) = hn * ld + hn * hd := by grind
        rw [this, Int.add_mul]; omega
    · rintro ⟨x, y, hx, hy, a, b⟩
      have a' : ln * (x + y) ≤ y * ld := by omega
      exact frac_le_lt (n2 := y) (d2 := x + y) h2 (by omega) h3 a' b
  | (a, b) :: l, ln, ld, hn, hd, h1, h2, h3, h4 => by
    have e1 : ∀ x y : Int, (∀ p ∈ (a, b) :: l, 0 < p.1 * x + p.2 * y) ↔ (0 < a * x + b * y ∧ ∀ p ∈ l, 0 < p.1 * x + p.2 * y) := by intro x y; simp
    simp only [e1]
    unfold enterF
    by_cases c1 : a ≤ 0 ∧ b ≤ 0
    · rw [if_pos c1]
      constructor
      · intro h; cases h
      · rintro ⟨x, y, hx, hy, ⟨h5, _⟩, _⟩
        have := Int.mul_nonneg (show 0 ≤ -a by omega) (show 0 ≤ x by omega)
        have := Int.mul_nonneg (show 0 ≤ -b by omega) (show 0 ≤ y by omega)
        rw [Int.neg_mul] at *; omega
    · rw [if_neg c1]
      by_cases c2 : a < 0
      · have hb : 0 < b := by omega
        have hba : 0 < b - a := by omega
        have e2 : ∀ x y : Int, 0 < a * x + b * y ↔ -a * (x + y) < y * (b - a) := by intro x y; constructor <;> intro h <;> grind
        rw [if_pos c2]
        by_cases c3 : ln * (b - a) < -a * ld
        · rw [if_pos c3, enterF_iff l (-a) (b - a) hn hd (by omega) hba h3 h4]
          constructor
          · rintro ⟨x, y, hx, hy, h5, h6, h7⟩
            exact ⟨x, y, hx, hy, ⟨(e2 x y).2 h6, h5⟩, frac_le_lt (n2 := -a) (d2 := b - a) h2 hba (by omega) (by omega) h6, h7⟩
          · rintro ⟨x, y, hx, hy, ⟨h5, h6⟩, h7, h8⟩
            exact ⟨x, y, hx, hy, h6, (e2 x y).1 h5, h8⟩
        · rw [if_neg c3, enterF_iff l ln ld hn hd h1 h2 h3 h4]
          constructor
          · rintro ⟨x, y, hx, hy, h5, h6, h7⟩
            exact ⟨x, y, hx, hy, ⟨(e2 x y).2 (frac_le_lt (n2 := ln) (d2 := ld) hba h2 (by omega) (by omega) h6), h5⟩, h6, h7⟩
          · rintro ⟨x, y, hx, hy, ⟨h5, h6⟩, h7, h8⟩
            exact ⟨x, y, hx, hy, h6, h7, h8⟩
      · rw [if_neg c2]
        by_cases c4 : b < 0
        · have ha : 0 < a := by omega
          have hab : 0 < a - b := by omega
          have e2 : ∀ x y : Int, 0 < a * x + b * y ↔ y * (a - b) < a * (x + y) := by intro x y; constructor <;> intro h <;> grind
          rw [if_pos c4]
          by_cases c3 : a * hd < hn * (a - b)
          · rw [if_pos c3, enterF_iff l ln ld a (a - b) h1 h2 hab (by omega)]
            constructor
            · rintro ⟨x, y, hx, hy, h5, h6, h7⟩
              exact ⟨x, y, hx, hy, ⟨(e2 x y).2 h7, h5⟩, h6, frac_lt_le (n2 := a) (d2 := a - b) (by omega) hab h3 h7 (by omega)⟩
            · rintro ⟨x, y, hx, hy, ⟨h5, h6⟩, h7, h8⟩
              exact ⟨x, y, hx, hy, h6, h7, (e2 x y).1 h5⟩
          · rw [if_neg c3, enterF_iff l ln ld hn hd h1 h2 h3 h4]
            constructor
            · rintro ⟨x, y, hx, hy, h5, h6, h7⟩
              exact ⟨x, y, hx, hy, ⟨(e2 x y).2 (frac_lt_le (n2 := hn) (d2 := hd) (by omega) h3 hab h7 (by omega)), h5⟩, h6, h7⟩
            · rintro ⟨x, y, hx, hy, ⟨h5, h6⟩, h7, h8⟩
              exact ⟨x, y, hx, hy, h6, h7, h8⟩
        · rw [if_neg c4, enterF_iff l ln ld hn hd h1 h2 h3 h4]
          constructor
          · rintro ⟨x, y, hx, hy, h5, h6, h7⟩
            refine ⟨x, y, hx, hy, ⟨?_, h5⟩, h6, h7⟩
            have g1 := Int.mul_nonneg (show 0 ≤ a by omega) (show 0 ≤ x by omega)
            have g2 := Int.mul_nonneg (show 0 ≤ b by omega) (show 0 ≤ y by omega)
            rcases Int.lt_or_le 0 a with h | h
            · have := Int.mul_pos h hx; omega
            · have := Int.mul_pos (show 0 < b by omega) hy; omega
          · rintro ⟨x, y, hx, hy, ⟨h5, h6⟩, h7, h8⟩
            exact ⟨x, y, hx, hy, h6, h7, h8⟩
structure Poly (F : List P3) (Vs : List V) (Es : List S) (c : P3) : Prop where
  nonneg : ∀ f ∈ F, ∀ v ∈ Vs, 0 ≤ ev f (pt v)
  cd : 0 < c.d
  cin : ∀ f ∈ F, 0 < ev f c
  ends : ∀ s ∈ Es, s.a ∈ Vs ∧ s.b ∈ Vs
  /-- a boundary point lies on a side -/
  side : ∀ q : P3, 0 < q.d → (∃ f ∈ F, ev f q = 0) → (∀ f ∈ F, 0 ≤ ev f q) → ∃ s ∈ Es, ∃ x y k : Int, 0 ≤ x ∧ 0 ≤ y ∧ 0 < k ∧ ∀ h : P3, k * ev h q = x * ev h (pt s.a) + y * ev h (pt s.b)
  /-- the interior lies within the hull of the corners -/
  hull : ∀ q : P3, (∀ f ∈ F, 0 < ev f q) → ∀ h : P3, (∀ v ∈ Vs, ev h (pt v) ≤ 0) → ev h q ≤ 0
def Enters (G : List P3) (s : S) : Prop := ∃ x y : Int, 0 < x ∧ 0 < y ∧ ∀ g ∈ G, 0 < ev g (pt s.a) * x + ev g (pt s.b) * y
end Go.Proofs.YtdaeofhdgabhjaaGreat.Geo
set_option linter.unusedSimpArgs false
namespace Go.Proofs.YtdaeofhdgabhjaaGreat.Geo
def onC (x1 y1 x2 y2 c : Int) : Bool := c == 0 && (decide (min x1 x2 ≤ 0) && decide (0 ≤ max x1 x2)) && (decide (min y1 y2 ≤ 0) && decide (0 ≤ max y1 y2))
def hitC (y1 y2 c : Int) : Bool := (decide (0 ≤ y1) != decide (0 ≤ y2)) && (decide (0 ≤ y1) == decide (0 < c))
def scanC (x1 y1 x2 y2 x3 y3 : Int) : Int :=
  if onC x1 y1 x2 y2 (x1 * y2 - y1 * x2) then 1 else if onC x2 y2 x3 y3 (x2 * y3 - y2 * x3) then 1 else if onC x3 y3 x1 y1 (x3 * y1 - y3 * x1) then 1
  else if ((false != hitC y1 y2 (x1 * y2 - y1 * x2)) != hitC y2 y3 (x2 * y3 - y2 * x3)) != hitC y3 y1 (x3 * y1 - y3 * x1) then 2 else 0
def entersP (s : S) (r : Ring) : Bool := enterF ((edges r).map fun e => (cross (sub e.b e.a) (sub s.a e.a), cross (sub e.b e.a) (sub s.b e.a))) 0 1 1 1
def linesOf (r : Ring) : List P3 := (edges r).map fun e => lin e.a e.b
def overlapP (a b : Ring) : Bool := (edges a).any (fun s => entersP s b) || ((edges b).any (fun s => entersP s a) || whereP b (centerP (nth a 0) (nth a 1) (nth a 2)) == 2)
def rightR (a b : Ring) : Bool := (List.range a.length).any fun i => b.all fun v => decide (turn (nth a i) (nxt a i) v ≤ 0)
def apartTR (a b : Ring) : Bool := rightR a b || rightR b a
end Go.Proofs.YtdaeofhdgabhjaaGreat.Geo
namespace Go.Proofs.YtdaeofhdgabhjaaGreat.Geo
theorem enterF_true : ∀ (L : List (Int × Int)) (ln ld hn hd : Int), ln * hd < hn * ld → (∀ p ∈ L, ¬ (p.1 ≤ 0 ∧ p.2 ≤ 0)) → (∀ p ∈ L, p.1 < 0 → -p.1 * hd < hn * (p.2 - p.1)) →
    (∀ q ∈ L, q.2 < 0 → ln * (q.1 - q.2) < q.1 * ld) → (∀ p ∈ L, ∀ q ∈ L, p.1 < 0 → q.2 < 0 → -p.1 * (q.1 - q.2) < q.1 * (p.2 - p.1)) → enterF L ln ld hn hd = true
  | [], ln, ld, hn, hd, h0, _, _, _, _ => by simpa [enterF] using h0
  | (a, b) :: L, ln, ld, hn, hd, h0, h1, h2, h3, h4 => by
    have i1 : ∀ p ∈ L, ¬ (p.1 ≤ 0 ∧ p.2 ≤ 0) := fun p hp => h1 p (List.mem_cons_of_mem _ hp)
    have i2 : ∀ p ∈ L, p.1 < 0 → -p.1 * hd < hn * (p.2 - p.1) := fun p hp => h2 p (List.mem_cons_of_mem _ hp)
    have i3 : ∀ q ∈ L, q.2 < 0 → ln * (q.1 - q.2) < q.1 * ld := fun p hp => h3 p (List.mem_cons_of_mem _ hp)
    have i4 : ∀ p ∈ L, ∀ q ∈ L, p.1 < 0 → q.2 < 0 → -p.1 * (q.1 - q.2) < q.1 * (p.2 - p.1) := fun p hp q hq => h4 p (List.mem_cons_of_mem _ hp) q (List.mem_cons_of_mem _ hq)
    unfold enterF
    rw [if_neg (h1 (a, b) List.mem_cons_self)]
    split
    · rename_i ha
      split
      · exact enterF_true L _ _ _ _ (h2 (a, b) List.mem_cons_self ha) i1 i2 (fun q hq hq2 => h4 (a, b) List.mem_cons_self q (List.mem_cons_of_mem _ hq) ha hq2) i4
      · exact enterF_true L _ _ _ _ h0 i1 i2 i3 i4
    · split
      · rename_i hb
        split
        · exact enterF_true L _ _ _ _ (h3 (a, b) List.mem_cons_self hb) i1 (fun p hp hp1 => h4 p (List.mem_cons_of_mem _ hp) (a, b) List.mem_cons_self hp1 hb) i3 i4
        · exact enterF_true L _ _ _ _ h0 i1 i2 i3 i4
      · exact enterF_true L _ _ _ _ h0 i1 i2 i3 i4
theorem enters_of {F : List P3} {s : S} (h1 : ∀ f ∈ F, ¬ (ev f (pt s.a) ≤ 0 ∧ ev f (pt s.b) ≤ 0))
    (h2 : ∀ f ∈ F, ∀ g ∈ F, ev f (pt s.a) < 0 → ev g (pt s.b) < 0 → ev f (pt s.a) * ev g (pt s.b) < ev g (pt s.a) * ev f (pt s.b)) : Enters F s := by
  have : enterF (F.map fun f => (ev f (pt s.a), ev f (pt s.b))) 0 1 1 1 = true := by
    refine enterF_true _ _ _ _ _ (by decide) ?_ ?_ ?_ ?_
    · intro p hp
      obtain ⟨f, hf, rfl⟩ := List.mem_map.1 hp
      exact h1 f hf
    · intro p hp hp1
      obtain ⟨f, hf, rfl⟩ := List.mem_map.1 hp
      have := h1 f hf
      simp only at hp1 ⊢
      omega
    · intro p hp hp1
      obtain ⟨f, hf, rfl⟩ := List.mem_map.1 hp
      have := h1 f hf
      simp only at hp1 ⊢
      omega
    · intro p hp q hq hp1 hq2
      obtain ⟨f, hf, rfl⟩ := List.mem_map.1 hp
      obtain ⟨g, hg, rfl⟩ := List.mem_map.1 hq
      have := h2 f hf g hg hp1 hq2
      simp only
      grind
  rw [enterF_iff _ _ _ _ _ (by decide) (by decide) (by decide) (by decide)] at this
  obtain ⟨x, y, hx, hy, h, _⟩ := this
  exact ⟨x, y, hx, hy, fun g hg => h _ (List.mem_map.2 ⟨g, hg, rfl⟩)⟩
def withinTP (s : Shape) (r : Ring) : Bool := (edgesS s).all (fun e => !(entersP e r)) && whereSP s (centerP (nth r 0) (nth r 1) (nth r 2)) == 2
def withinTR (s : Shape) (r : Ring) : Bool := (edgesS s).all (fun e => apartTR r [e.a, e.b]) && whereSR s (middleR (r.take 3)) == 2
end Go.Proofs.YtdaeofhdgabhjaaGreat.Geo
namespace Go.Proofs.YtdaeofhdgabhjaaGreat
open Go.RowKit
abbrev Q4 := Int × Int × Int × Int
def stepE (q : Q4) (p : Int × Int) : Q4 :=
  if p.1 < 0 then (if q.1 * (p.2 - p.1) < -p.1 * q.2.1 then (-p.1, p.2 - p.1, q.2.2) else q)
  else if p.2 < 0 then (if p.1 * q.2.2.2 < q.2.2.1 * (p.1 - p.2) then (q.1, q.2.1, p.1, p.1 - p.2) else q) else q
def outE (p : Int × Int) : Bool := decide (p.1 ≤ 0) && decide (p.2 ≤ 0)
theorem enterF_fold : ∀ (l : List (Int × Int)) (q : Q4), Geo.enterF l q.1 q.2.1 q.2.2.1 q.2.2.2 = (!(l.any outE) && decide ((l.foldl stepE q).1 * (l.foldl stepE q).2.2.2 < (l.foldl stepE q).2.2.1 * (l.foldl stepE q).2.1))
  | [], q => by simp [Geo.enterF] <;> congr
  | (a, b) :: l, (ln, ld, hn, hd) => by
    unfold Geo.enterF
    rw [List.any_cons, List.foldl_cons]
    by_cases h1 : a ≤ 0 ∧ b ≤ 0
    · have : outE (a, b) = true := by unfold outE; simp [h1.1, h1.2]
      rw [if_pos h1, this]; simp
    · have h2 : outE (a, b) = false := by unfold outE; rw [Bool.and_eq_false_iff, decide_eq_false_iff_not, decide_eq_false_iff_not]; omega
      rw [if_neg h1, h2, Bool.false_or]
      unfold stepE
      dsimp only
      by_cases h3 : a < 0
      · rw [if_pos h3, if_pos h3]
        by_cases h4 : ln * (b - a) < -a * ld
        · rw [if_pos h4, if_pos h4]; exact enterF_fold l (-a, b - a, hn, hd)
        · rw [if_neg h4, if_neg h4]; exact enterF_fold l (ln, ld, hn, hd)
      · rw [if_neg h3, if_neg h3]
        by_cases h5 : b < 0
        · rw [if_pos h5, if_pos h5]
          by_cases h4 : a * hd < hn * (a - b)
          · rw [if_pos h4, if_pos h4]; exact enterF_fold l (ln, ld, a, a - b)
          · rw [if_neg h4, if_neg h4]; exact enterF_fold l (ln, ld, hn, hd)
        · rw [if_neg h5, if_neg h5]; exact enterF_fold l (ln, ld, hn, hd)
def pairE (s e : Geo.S) : Int × Int := (Geo.cross (Geo.sub e.b e.a) (Geo.sub s.a e.a), Geo.cross (Geo.sub e.b e.a) (Geo.sub s.b e.a))
def pairsE (s : Geo.S) (r : Geo.Ring) : List (Int × Int) := (Geo.edges r).map (pairE s)
def stE (s : Geo.S) (r : Geo.Ring) (k : Nat) : Q4 := ((pairsE s r).take k).foldl stepE (0, 1, 1, 1)
def lnE (s : Geo.S) (r : Geo.Ring) (k : Nat) : Int := (stE s r k).1
def ldE (s : Geo.S) (r : Geo.Ring) (k : Nat) : Int := (stE s r k).2.1
def hnE (s : Geo.S) (r : Geo.Ring) (k : Nat) : Int := (stE s r k).2.2.1
def hdE (s : Geo.S) (r : Geo.Ring) (k : Nat) : Int := (stE s r k).2.2.2
def ibd (m x : Int) : Prop := -m ≤ x ∧ x ≤ m
def InvE (s : Geo.S) (r : Geo.Ring) (k : Nat) : Prop := ((pairsE s r).take k).any outE = false ∧ ibd 1600000000 (lnE s r k) ∧ ibd 1600000000 (ldE s r k) ∧ ibd 1600000000 (hnE s r k) ∧ ibd 1600000000 (hdE s r k)
theorem invE_zero (s : Geo.S) (r : Geo.Ring) : InvE s r 0 := by
  unfold InvE lnE ldE hnE hdE stE ibd
  simp
theorem pairsE_at {s : Geo.S} {r : Geo.Ring} {k : Nat} (hk : k < (Geo.edges r).length) : (pairsE s r)[k]? = some (pairE s (Geo.edges r)[k]) := by
  unfold pairsE
  rw [List.getElem?_map, List.getElem?_eq_getElem hk]; rfl
theorem stE_succ {s : Geo.S} {r : Geo.Ring} {k : Nat} (hk : k < (Geo.edges r).length) : stE s r (k + 1) = stepE (stE s r k) (pairE s (Geo.edges r)[k]) := by
  unfold stE
  rw [List.take_add_one, pairsE_at hk, List.foldl_append]
  rfl
theorem invE_succ {s : Geo.S} {r : Geo.Ring} {k : Nat} (hk : k < (Geo.edges r).length) (h : InvE s r k) (ho : outE (pairE s (Geo.edges r)[k]) = false)
    (ha : ibd 800000000 (pairE s (Geo.edges r)[k]).1) (hb : ibd 800000000 (pairE s (Geo.edges r)[k]).2) : InvE s r (k + 1) := by
  obtain ⟨h1, h2, h3, h4, h5⟩ := h
  unfold InvE
  refine ⟨?_, ?_⟩
  · rw [List.take_add_one, pairsE_at hk, List.any_append, h1]
    simp [ho]
  · unfold lnE ldE hnE hdE at *
    rw [stE_succ hk]
    generalize pairE s (Geo.edges r)[k] = p at ha hb ⊢
    generalize stE s r k = q at h2 h3 h4 h5 ⊢
    obtain ⟨a, b⟩ := p
    obtain ⟨ln, ld, hn, hd⟩ := q
    unfold ibd at *
    dsimp only at *
    unfold stepE
    dsimp only
    split
    · split
      · dsimp only; omega
      · dsimp only; omega
    · split
      · split
        · dsimp only; omega
        · dsimp only; omega
      · dsimp only; omega
theorem enters_out {s : Geo.S} {r : Geo.Ring} {k : Nat} (hk : k < (Geo.edges r).length) (ho : outE (pairE s (Geo.edges r)[k]) = true) : Geo.entersP s r = false := by
  have h := enterF_fold (pairsE s r) (0, 1, 1, 1)
  have hm : (pairsE s r).any outE = true := List.any_eq_true.2 ⟨_, List.mem_map.2 ⟨_, List.getElem_mem hk, rfl⟩, ho⟩
  rw [hm] at h
  exact h
theorem enters_end {s : Geo.S} {r : Geo.Ring} (h : InvE s r (Geo.edges r).length) : Geo.entersP s r = decide (lnE s r (Geo.edges r).length * hdE s r (Geo.edges r).length < hnE s r (Geo.edges r).length * ldE s r (Geo.edges r).length) := by
  have hl : (pairsE s r).length = (Geo.edges r).length := by unfold pairsE; rw [List.length_map]
  have h1 := h.1
  have e := enterF_fold (pairsE s r) (0, 1, 1, 1)
  unfold lnE ldE hnE hdE stE
  rw [← hl, List.take_length] at h1 ⊢
  rw [h1] at e
  exact e
structure TriOk (r : Geo.Ring) : Prop where
  three : 3 ≤ r.length
  len : r.length ≤ 1000
  near : ∀ v ∈ r, Geo.within v 10000 = true
  edges : ∀ e ∈ Geo.edges r, Geo.within e.a 10000 = true ∧ Geo.within e.b 10000 = true
theorem vr_edges {r : Geo.Ring} (h : Geo.VR r) {e : Geo.S} (he : e ∈ Geo.edges r) : Geo.within e.a 10000 = true ∧ Geo.within e.b 10000 = true := by
  have h3 := h.three
  unfold Geo.edges at he
  rw [if_neg (by omega)] at he
  obtain ⟨i, hi, rfl⟩ := List.mem_map.1 he
  have hi := List.mem_range.1 hi
  exact ⟨Geo.within_mono (Geo.near_nth h.near i hi) (by omega), Geo.within_mono (Geo.near_nth h.near _ (Nat.mod_lt _ (by omega))) (by omega)⟩
theorem vr_mem {r : Geo.Ring} (h : Geo.VR r) {v : Geo.V} (hv : v ∈ r) : Geo.within v 10000 = true := by
  have h1 := h.near
  unfold Geo.near at h1
  rw [List.all_eq_true] at h1
  exact Geo.within_mono (h1 v hv) (by omega)
theorem triOk_of {r : Geo.Ring} (h : Geo.validP r = true) : TriOk r := by
  have h := (Geo.validP_iff r).1 h
  have := h.most
  exact ⟨h.three, by omega, fun v hv => vr_mem h hv, fun e he => vr_edges h he⟩
end Go.Proofs.YtdaeofhdgabhjaaGreat
namespace Go.Proofs.YtdaeofhdgabhjaaGreat
open Go.RowKit
set_option maxRecDepth 100000
noncomputable section
open Geo (edgesS nth nthR)
def eP (s : Geo.S) (r : Geo.Ring) (k : Nat) : Int × Int := pairE s (nthS (Geo.edges r) k)
def eA (s : Geo.S) (r : Geo.Ring) (k : Nat) : Int := (eP s r k).1
def eB' (s : Geo.S) (r : Geo.Ring) (k : Nat) : Int := (eP s r k).2
def eO (s : Geo.S) (r : Geo.Ring) (k : Nat) : Bool := outE (eP s r k)
theorem vs_edges {s : Geo.Shape} (h : Geo.VS s) : ∀ e ∈ edgesS s, Geo.within e.a 10000 = true ∧ Geo.within e.b 10000 = true := by
  intro e he
  unfold edgesS at he
  obtain ⟨r, hr, her⟩ := List.mem_flatMap.1 he
  exact vr_edges (h.ring hr) her
def c158 : Con := con (ac aS (a1 (aL .V))) (fun (s, r) => [bd 10000 s.a, bd 10000 s.b, r.length ≤ 1000, (∀ i, i < (Geo.edges r).length → bd 10000 (nthS (Geo.edges r) i).a ∧ bd 10000 (nthS (Geo.edges r) i).b)]) (fun (s, r) => .bool (Geo.entersP s r))
set_option maxHeartbeats 2000000 in
theorem k158 : c158.Ok Tryz.prog 158 := con_ok (cx_ok t21o) (raw := noRaw) (fun (s, r) => [(3, .mk Nat (fun F _ => natAt F 17) [] (fun k => [k ≤ (Geo.edges r).length, InvE s r k]) (fun k => [(17, .int .i64 (k : Int)), (5, .int .i64 (lnE s r k)), (6, .int .i64 (ldE s r k)), (7, .int .i64 (hnE s r k)), (8, .int .i64 (hdE s r k))]) (fun _ => []) (fun k => (Geo.edges r).length - k) fun k =>
  [jU 7 [(12, .int .i64 (eA s r k)), (13, .int .i64 (eB' s r k))], jb 8 40 (eO s r k), jPU 15 [eO s r k = false] [(5, .int .i64 (lnE s r (k + 1))), (6, .int .i64 (ldE s r (k + 1))), (7, .int .i64 (hnE s r (k + 1))), (8, .int .i64 (hdE s r (k + 1)))]])]
  ) (fun (_, _) => ⟨_, rfl⟩) fun (s, r) hp => by_vc (q := r.length ≤ 1000 ∧ (0 = (0 : Int) ∧ 0 = lnE s r 0 ∧ 1 = ldE s r 0 ∧ 1 = hnE s r 0 ∧ 1 = hdE s r 0 ∧ (0 : Nat) ≤ (Geo.edges r).length ∧ InvE s r 0) ∧
 (∀ x : Nat, x ≤ (Geo.edges r).length ∧ InvE s r x → ((x : Int) < (Geo.edges r).length → (ix (x : Int) (Geo.edges r).length ∧ x < (Geo.edges r).length ∧ bd 1000000000 (nthS (Geo.edges r) x).b ∧ bd 1000000000 (nthS (Geo.edges r) x).a ∧ (bd 1000000000 s.a ∧ bd 1000000000 (nthS (Geo.edges r) x).a ∧ cOK (Geo.sub (nthS (Geo.edges r) x).b (nthS (Geo.edges r) x).a) (Geo.sub s.a (nthS (Geo.edges r) x).a) ∧ bd 1000000000 s.b ∧ bd 1000000000 (nthS (Geo.edges r) x).a ∧ cOK (Geo.sub (nthS (Geo.edges r) x).b (nthS (Geo.edges r) x).a) (Geo.sub s.b (nthS (Geo.edges r) x).a) ∧ Geo.cross (Geo.sub (nthS (Geo.edges r) x).b (nthS (Geo.edges r) x).a) (Geo.sub s.a (nthS (Geo.edges r) x).a) = eA s r x ∧ Geo.cross (Geo.sub (nthS (Geo.edges r) x).b (nthS (Geo.edges r) x).a) (Geo.sub s.b (nthS (Geo.edges r) x).a) = eB' s r x) ∧
    (∀ y : Unit, ((eA s r x ≤ 0 → decide (eB' s r x ≤ 0) = eO s r x) ∧
      (¬ eA s r x ≤ 0 → false = eO s r x)) ∧
     (∀ y_1 : Unit, (eO s r x = true → false = Geo.entersP s r) ∧
      (eO s r x = false → (eA s r x < 0 → in64 (0 - eA s r x) ∧ in64 ((0 - eA s r x) * ldE s r x) ∧ in64 (eB' s r x - eA s r x) ∧ in64 (lnE s r x * (eB' s r x - eA s r x)) ∧ (lnE s r x * (eB' s r x - eA s r x) < (0 - eA s r x) * ldE s r x → in64 (0 - eA s r x) ∧ in64 (eB' s r x - eA s r x) ∧ 0 - eA s r x = lnE s r (x + 1) ∧ eB' s r x - eA s r x = ldE s r (x + 1) ∧ hnE s r x = hnE s r (x + 1) ∧ hdE s r x = hdE s r (x + 1) ∧ eO s r x = false) ∧
        (¬ lnE s r x * (eB' s r x - eA s r x) < (0 - eA s r x) * ldE s r x → lnE s r x = lnE s r (x + 1) ∧ ldE s r x = ldE s r (x + 1) ∧ hnE s r x = hnE s r (x + 1) ∧ hdE s r x = hdE s r (x + 1) ∧ eO s r x = false)) ∧
       (¬ eA s r x < 0 → (eB' s r x < 0 → in64 (eA s r x * hdE s r x) ∧ in64 (eA s r x - eB' s r x) ∧ in64 (hnE s r x * (eA s r x - eB' s r x)) ∧ (eA s r x * hdE s r x < hnE s r x * (eA s r x - eB' s r x) → in64 (eA s r x - eB' s r x) ∧ lnE s r x = lnE s r (x + 1) ∧ ldE s r x = ldE s r (x + 1) ∧ eA s r x = hnE s r (x + 1) ∧ eA s r x - eB' s r x = hdE s r (x + 1) ∧ eO s r x = false) ∧
         (¬ eA s r x * hdE s r x < hnE s r x * (eA s r x - eB' s r x) → lnE s r x = lnE s r (x + 1) ∧ ldE s r x = ldE s r (x + 1) ∧ hnE s r x = hnE s r (x + 1) ∧ hdE s r x = hdE s r (x + 1) ∧ eO s r x = false)) ∧
        (¬ eB' s r x < 0 → lnE s r x = lnE s r (x + 1) ∧ ldE s r x = ldE s r (x + 1) ∧ hnE s r x = hnE s r (x + 1) ∧ hdE s r x = hdE s r (x + 1) ∧ eO s r x = false)))))) ∧
   (∀ y : Unit, eO s r x = false → in64 ((x : Int) + 1) ∧ (x : Int) + 1 = ((x + 1 : Nat) : Int) ∧ lnE s r (x + 1) = lnE s r (x + 1) ∧ ldE s r (x + 1) = ldE s r (x + 1) ∧ hnE s r (x + 1) = hnE s r (x + 1) ∧ hdE s r (x + 1) = hdE s r (x + 1) ∧ x + 1 ≤ (Geo.edges r).length ∧ InvE s r (x + 1) ∧ (Geo.edges r).length - (x + 1) < (Geo.edges r).length - x)) ∧
  (¬ (x : Int) < (Geo.edges r).length → in64 (lnE s r x * hdE s r x) ∧ in64 (hnE s r x * ldE s r x) ∧ decide (Geo.cmpI (lnE s r x * hdE s r x) (hnE s r x * ldE s r x) < 0) = Geo.entersP s r))) (by kernel_rfl) (by
  change bd 10000 s.a ∧ bd 10000 s.b ∧ r.length ≤ 1000 ∧ ((∀ i, i < (Geo.edges r).length → bd 10000 (nthS (Geo.edges r) i).a ∧ bd 10000 (nthS (Geo.edges r) i).b)) at hp
  obtain ⟨ha, hb, hl, he⟩ := hp
  have he : ∀ i : Nat, (i : Int) < (Geo.edges r).length → bd 10000 (nthS (Geo.edges r) i).a ∧ bd 10000 (nthS (Geo.edges r) i).b := fun i h => he i (by omega)
  have el : (Geo.edges r).length ≤ 1000 := by unfold Geo.edges; split <;> simp <;> omega
  have ha9 : bd 1000000000 s.a := ha.mono
  have hb9 : bd 1000000000 s.b := hb.mono
  have e9a : ∀ i : Nat, (i : Int) < (Geo.edges r).length → bd 1000000000 (nthS (Geo.edges r) i).a := fun i h => (he i h).1.mono
  have e9b : ∀ i : Nat, (i : Int) < (Geo.edges r).length → bd 1000000000 (nthS (Geo.edges r) i).b := fun i h => (he i h).2.mono
  have cA : ∀ (v : Geo.V) (i : Nat), bd 10000 v → (i : Int) < (Geo.edges r).length → cOK (Geo.sub (nthS (Geo.edges r) i).b (nthS (Geo.edges r) i).a) (Geo.sub v (nthS (Geo.edges r) i).a) := fun v i hv h => by
    have := cross_bd (sub_bd (he i h).2 (he i h).1) (sub_bd hv (he i h).1)
    unfold cOK; omega
  have eN : ∀ i : Nat, (i : Int) < (Geo.edges r).length → nthS (Geo.edges r) i = (Geo.edges r)[i]! := fun i h => by rw [nthS_eq (by omega), getElem!_pos _ _ (by omega)]
  have bA : ∀ i : Nat, (i : Int) < (Geo.edges r).length → ibd 800000000 (eA s r i) ∧ ibd 800000000 (eB' s r i) := fun i h => by
    have h1 := cross_bd (sub_bd (he i h).2 (he i h).1) (sub_bd ha (he i h).1)
    have h2 := cross_bd (sub_bd (he i h).2 (he i h).1) (sub_bd hb (he i h).1)
    unfold eA eB' eP pairE ibd
    dsimp only
    unfold Geo.cross
    omega
  have sN : ∀ i : Nat, (i : Int) < (Geo.edges r).length → stE s r (i + 1) = stepE (stE s r i) (eP s r i) := fun i h => by
    rw [stE_succ (show i < (Geo.edges r).length by omega)]; unfold eP; rw [nthS_eq (by omega)]
  have iN : ∀ i : Nat, (i : Int) < (Geo.edges r).length → InvE s r i → eO s r i = false → InvE s r (i + 1) := fun i h h1 h2 => by
    have hb := bA i h
    have e : eP s r i = pairE s (Geo.edges r)[i] := by unfold eP; rw [nthS_eq (by omega)]
    refine invE_succ (show i < (Geo.edges r).length by omega) h1 ?_ ?_ ?_
    · rw [← e]; exact h2
    · rw [← e]; exact hb.1
    · rw [← e]; exact hb.2
  have oY : ∀ i : Nat, (i : Int) < (Geo.edges r).length → eO s r i = true → false = Geo.entersP s r := fun i h h2 => by
    symm; refine enters_out (k := i) (show i < (Geo.edges r).length by omega) ?_
    rw [← nthS_eq (by omega)]; exact h2
  have oE : ∀ i : Nat, ¬ (i : Int) < (Geo.edges r).length → i ≤ (Geo.edges r).length → InvE s r i → decide (Geo.cmpI (lnE s r i * hdE s r i) (hnE s r i * ldE s r i) < 0) = Geo.entersP s r := fun i h h2 h3 => by
    obtain rfl : i = (Geo.edges r).length := by omega
    rw [enters_end h3]
    unfold Geo.cmpI; grind
  have o1 : ∀ i : Nat, eA s r i ≤ 0 → decide (eB' s r i ≤ 0) = eO s r i := fun i h => by
    unfold eO outE; rw [decide_eq_true (show (eP s r i).1 ≤ 0 from h)]; rfl
  have o2 : ∀ i : Nat, ¬ eA s r i ≤ 0 → false = eO s r i := fun i h => by
    unfold eO outE; rw [decide_eq_false (show ¬ (eP s r i).1 ≤ 0 from h)]; rfl
  have nN : ∀ x : Int, 0 - x = -x := fun x => by omega
  have s1 : ∀ i : Nat, (i : Int) < (Geo.edges r).length → eA s r i < 0 → lnE s r i * (eB' s r i - eA s r i) < (0 - eA s r i) * ldE s r i → stE s r (i + 1) = (0 - eA s r i, eB' s r i - eA s r i, hnE s r i, hdE s r i) := fun i h h1 h2 => by
    rw [sN i h]; unfold stepE; rw [if_pos (show (eP s r i).1 < 0 from h1)]; rw [nN] at h2; exact (if_pos (show (stE s r i).1 * ((eP s r i).2 - (eP s r i).1) < -(eP s r i).1 * (stE s r i).2.1 from h2)).trans (by rw [nN]; rfl)
  have s2 : ∀ i : Nat, (i : Int) < (Geo.edges r).length → eA s r i < 0 → ¬ lnE s r i * (eB' s r i - eA s r i) < (0 - eA s r i) * ldE s r i → stE s r (i + 1) = stE s r i := fun i h h1 h2 => by
    rw [sN i h]; unfold stepE; rw [if_pos (show (eP s r i).1 < 0 from h1)]; rw [nN] at h2; exact if_neg h2
  have s3 : ∀ i : Nat, (i : Int) < (Geo.edges r).length → ¬ eA s r i < 0 → eB' s r i < 0 → eA s r i * hdE s r i < hnE s r i * (eA s r i - eB' s r i) → stE s r (i + 1) = (lnE s r i, ldE s r i, eA s r i, eA s r i - eB' s r i) := fun i h h1 h2 h3 => by
    rw [sN i h]; unfold stepE; rw [if_neg (show ¬ (eP s r i).1 < 0 from h1), if_pos (show (eP s r i).2 < 0 from h2)]; exact if_pos h3
  have s4 : ∀ i : Nat, (i : Int) < (Geo.edges r).length → ¬ eA s r i < 0 → eB' s r i < 0 → ¬ eA s r i * hdE s r i < hnE s r i * (eA s r i - eB' s r i) → stE s r (i + 1) = stE s r i := fun i h h1 h2 h3 => by
    rw [sN i h]; unfold stepE; rw [if_neg (show ¬ (eP s r i).1 < 0 from h1), if_pos (show (eP s r i).2 < 0 from h2)]; exact if_neg h3
  have s5 : ∀ i : Nat, (i : Int) < (Geo.edges r).length → ¬ eA s r i < 0 → ¬ eB' s r i < 0 → stE s r (i + 1) = stE s r i := fun i h h1 h2 => by
    rw [sN i h]; unfold stepE; rw [if_neg (show ¬ (eP s r i).1 < 0 from h1)]; exact if_neg (show ¬ (eP s r i).2 < 0 from h2)
  have w : ∀ i : Nat, (i : Int) < (Geo.edges r).length → InvE s r i → in64 (0 - eA s r i) ∧ in64 ((0 - eA s r i) * ldE s r i) ∧ in64 (eB' s r i - eA s r i) ∧ in64 (lnE s r i * (eB' s r i - eA s r i)) ∧ in64 (eA s r i * hdE s r i) ∧ in64 (eA s r i - eB' s r i) ∧ in64 (hnE s r i * (eA s r i - eB' s r i)) := fun i h hI => by
    obtain ⟨h1, h2⟩ := bA i h
    obtain ⟨_, g1, g2, g3, g4⟩ := hI
    unfold ibd at h1 h2 g1 g2 g3 g4
    have m1 := mul_bd (x := 0 - eA s r i) (y := ldE s r i) (A := 1600000000) (B := 1600000000) (by omega) (by omega)
    have m2 := mul_bd (x := lnE s r i) (y := eB' s r i - eA s r i) (A := 1600000000) (B := 1600000000) (by omega) (by omega)
    have m3 := mul_bd (x := eA s r i) (y := hdE s r i) (A := 1600000000) (B := 1600000000) (by omega) (by omega)
    have m4 := mul_bd (x := hnE s r i) (y := eA s r i - eB' s r i) (A := 1600000000) (B := 1600000000) (by omega) (by omega)
    exact ⟨i64w (by omega), i64w (by omega), i64w (by omega), i64w (by omega), i64w (by omega), i64w (by omega), i64w (by omega)⟩
  have wE : ∀ i : Nat, InvE s r i → in64 (lnE s r i * hdE s r i) ∧ in64 (hnE s r i * ldE s r i) := fun i hI => by
    obtain ⟨_, g1, g2, g3, g4⟩ := hI
    unfold ibd at g1 g2 g3 g4
    have m1 := mul_bd (x := lnE s r i) (y := hdE s r i) (A := 1600000000) (B := 1600000000) (by omega) (by omega)
    have m2 := mul_bd (x := hnE s r i) (y := ldE s r i) (A := 1600000000) (B := 1600000000) (by omega) (by omega)
    exact ⟨i64w (by omega), i64w (by omega)⟩
  have z := invE_zero s r
  have q1 : ∀ i : Nat, (i : Int) < (Geo.edges r).length → eA s r i < 0 → lnE s r i * (eB' s r i - eA s r i) < (0 - eA s r i) * ldE s r i → 0 - eA s r i = lnE s r (i + 1) ∧ eB' s r i - eA s r i = ldE s r (i + 1) ∧ hnE s r i = hnE s r (i + 1) ∧ hdE s r i = hdE s r (i + 1) := fun i h0 h1 h2 => by
    have e := s1 i h0 h1 h2
    exact ⟨(congrArg (fun q : Q4 => q.1) e).symm, (congrArg (fun q : Q4 => q.2.1) e).symm, (congrArg (fun q : Q4 => q.2.2.1) e).symm, (congrArg (fun q : Q4 => q.2.2.2) e).symm⟩
  have q2 : ∀ i : Nat, (i : Int) < (Geo.edges r).length → eA s r i < 0 → ¬ lnE s r i * (eB' s r i - eA s r i) < (0 - eA s r i) * ldE s r i → lnE s r i = lnE s r (i + 1) ∧ ldE s r i = ldE s r (i + 1) ∧ hnE s r i = hnE s r (i + 1) ∧ hdE s r i = hdE s r (i + 1) := fun i h0 h1 h2 => by
    have e := s2 i h0 h1 h2
    exact ⟨(congrArg (fun q : Q4 => q.1) e).symm, (congrArg (fun q : Q4 => q.2.1) e).symm, (congrArg (fun q : Q4 => q.2.2.1) e).symm, (congrArg (fun q : Q4 => q.2.2.2) e).symm⟩
  have q3 : ∀ i : Nat, (i : Int) < (Geo.edges r).length → ¬ eA s r i < 0 → eB' s r i < 0 → eA s r i * hdE s r i < hnE s r i * (eA s r i - eB' s r i) → lnE s r i = lnE s r (i + 1) ∧ ldE s r i = ldE s r (i + 1) ∧ eA s r i = hnE s r (i + 1) ∧ eA s r i - eB' s r i = hdE s r (i + 1) := fun i h0 h1 h2 h3 => by
    have e := s3 i h0 h1 h2 h3
    exact ⟨(congrArg (fun q : Q4 => q.1) e).symm, (congrArg (fun q : Q4 => q.2.1) e).symm, (congrArg (fun q : Q4 => q.2.2.1) e).symm, (congrArg (fun q : Q4 => q.2.2.2) e).symm⟩
  have q4 : ∀ i : Nat, (i : Int) < (Geo.edges r).length → ¬ eA s r i < 0 → eB' s r i < 0 → ¬ eA s r i * hdE s r i < hnE s r i * (eA s r i - eB' s r i) → lnE s r i = lnE s r (i + 1) ∧ ldE s r i = ldE s r (i + 1) ∧ hnE s r i = hnE s r (i + 1) ∧ hdE s r i = hdE s r (i + 1) := fun i h0 h1 h2 h3 => by
    have e := s4 i h0 h1 h2 h3
    exact ⟨(congrArg (fun q : Q4 => q.1) e).symm, (congrArg (fun q : Q4 => q.2.1) e).symm, (congrArg (fun q : Q4 => q.2.2.1) e).symm, (congrArg (fun q : Q4 => q.2.2.2) e).symm⟩
  have q5 : ∀ i : Nat, (i : Int) < (Geo.edges r).length → ¬ eA s r i < 0 → ¬ eB' s r i < 0 → lnE s r i = lnE s r (i + 1) ∧ ldE s r i = ldE s r (i + 1) ∧ hnE s r i = hnE s r (i + 1) ∧ hdE s r i = hdE s r (i + 1) := fun i h0 h1 h2 => by
    have e := s5 i h0 h1 h2
    exact ⟨(congrArg (fun q : Q4 => q.1) e).symm, (congrArg (fun q : Q4 => q.2.1) e).symm, (congrArg (fun q : Q4 => q.2.2.1) e).symm, (congrArg (fun q : Q4 => q.2.2.2) e).symm⟩
  clear he sN bA eN nN s1 s2 s3 s4 s5
  repeat' first | with_reducible apply And.intro | with_reducible intro
  all_goals repeat with_reducible cases ‹_ ∧ InvE _ _ _›
  all_goals first | assumption | with_reducible rfl | (with_reducible exact e9a _ ‹_›) | (with_reducible exact e9b _ ‹_›) | (with_reducible exact cA _ _ ‹_› ‹_›) | (with_reducible exact oY _ ‹_› ‹_›) | (with_reducible exact oE _ ‹_› ‹_› ‹_›) | (with_reducible exact o1 _ ‹_›) | (with_reducible exact o2 _ ‹_›) | (with_reducible exact (w _ ‹_› ‹_›).1) | (with_reducible exact (w _ ‹_› ‹_›).2.1) | (with_reducible exact (w _ ‹_› ‹_›).2.2.1) | (with_reducible exact (w _ ‹_› ‹_›).2.2.2.1) | (with_reducible exact (w _ ‹_› ‹_›).2.2.2.2.1) | (with_reducible exact (w _ ‹_› ‹_›).2.2.2.2.2.1) | (with_reducible exact (w _ ‹_› ‹_›).2.2.2.2.2.2) | (with_reducible exact (wE _ ‹_›).1) | (with_reducible exact (wE _ ‹_›).2) | (with_reducible exact iN _ ‹_› ‹_› ‹_›) | (with_reducible exact (q1 _ ‹_› ‹_› ‹_›).1) | (with_reducible exact (q1 _ ‹_› ‹_› ‹_›).2.1) | (with_reducible exact (q1 _ ‹_› ‹_› ‹_›).2.2.1) | (with_reducible exact (q1 _ ‹_› ‹_› ‹_›).2.2.2) | (with_reducible exact (q2 _ ‹_› ‹_› ‹_›).1) | (with_reducible exact (q2 _ ‹_› ‹_› ‹_›).2.1) | (with_reducible exact (q2 _ ‹_› ‹_› ‹_›).2.2.1) | (with_reducible exact (q2 _ ‹_› ‹_› ‹_›).2.2.2) | (with_reducible exact (q3 _ ‹_› ‹_› ‹_› ‹_›).1) | (with_reducible exact (q3 _ ‹_› ‹_› ‹_› ‹_›).2.1) | (with_reducible exact (q3 _ ‹_› ‹_› ‹_› ‹_›).2.2.1) | (with_reducible exact (q3 _ ‹_› ‹_› ‹_› ‹_›).2.2.2) | (with_reducible exact (q4 _ ‹_› ‹_› ‹_› ‹_›).1) | (with_reducible exact (q4 _ ‹_› ‹_› ‹_› ‹_›).2.1) | (with_reducible exact (q4 _ ‹_› ‹_› ‹_› ‹_›).2.2.1) | (with_reducible exact (q4 _ ‹_› ‹_› ‹_› ‹_›).2.2.2) | (with_reducible exact (q5 _ ‹_› ‹_› ‹_›).1) | (with_reducible exact (q5 _ ‹_› ‹_› ‹_›).2.1) | (with_reducible exact (q5 _ ‹_› ‹_› ‹_›).2.2.1) | (with_reducible exact (q5 _ ‹_› ‹_› ‹_›).2.2.2) | omega | (unfold ix; omega) | (unfold in64; omega) | rfl)
def t158 : Tab := tabL [(158, c158)] t21
theorem t158o : t158.Ok Tryz.prog := tabL_ok t21o ⟨k158, trivial⟩
theorem any_yes {t : LT} {l : List t.ty} {q : t.ty → Bool} {j : Nat} (hj : j < l.length) (h : q (t.nth l j) = true) : l.any q = true :=
  List.any_eq_true.2 ⟨_, List.getElem_mem hj, by rw [← t.nth_eq l hj]; exact h⟩
theorem any_no {t : LT} {l : List t.ty} {q : t.ty → Bool} (h : upto (fun j => q (t.nth l j) = false) l.length) : l.any q = false :=
  List.any_eq_false.2 fun x hx => by
    obtain ⟨j, hj, rfl⟩ := List.getElem_of_mem hx
    have := h j hj
    dsimp only at this
    rw [t.nth_eq l hj] at this
    rw [this]; simp
def c88 : Con := con (ac (aL .V) (a1 (aL .V))) (fun (a, b) => [TriOk a, TriOk b]) (fun (a, b) => .bool (Geo.overlapP a b))
theorem k88 : c88.Ok Tryz.prog 88 := con_ok (cx_ok t158o) (raw := noRaw) (fun (a, b) => [cnt 2 12 (Geo.edges a).length (upto fun i => Geo.entersP (nthS (Geo.edges a) i) b = false), cnt 8 23 (Geo.edges b).length (upto fun i => Geo.entersP (nthS (Geo.edges b) i) a = false)]
  ) (fun (_, _) => ⟨_, rfl⟩) fun (a, b) hp => by_vc (q := a.length ≤ 1000 ∧ (0 = (0 : Int) ∧ (0 : Nat) ≤ (Geo.edges a).length ∧ upto (fun i => Geo.entersP (nthS (Geo.edges a) i) b = false) 0) ∧
 (∀ x : Nat, x ≤ (Geo.edges a).length ∧ upto (fun i => Geo.entersP (nthS (Geo.edges a) i) b = false) x → ((x : Int) < (Geo.edges a).length → ix (x : Int) (Geo.edges a).length ∧ x < (Geo.edges a).length ∧ bd 10000 (nthS (Geo.edges a) x).a ∧ bd 10000 (nthS (Geo.edges a) x).b ∧ b.length ≤ 1000 ∧ (∀ i : Nat, i < (Geo.edges b).length → bd 10000 (nthS (Geo.edges b) i).a ∧ bd 10000 (nthS (Geo.edges b) i).b) ∧ (Geo.entersP (nthS (Geo.edges a) x) b = true → true = Geo.overlapP a b) ∧
   (Geo.entersP (nthS (Geo.edges a) x) b = false → in64 ((x : Int) + 1) ∧ (x : Int) + 1 = ((x + 1 : Nat) : Int) ∧ x + 1 ≤ (Geo.edges a).length ∧ upto (fun i => Geo.entersP (nthS (Geo.edges a) i) b = false) (x + 1) ∧ (Geo.edges a).length - (x + 1) < (Geo.edges a).length - x)) ∧
  (¬ (x : Int) < (Geo.edges a).length → b.length ≤ 1000 ∧ (0 = (0 : Int) ∧ (0 : Nat) ≤ (Geo.edges b).length ∧ upto (fun i => Geo.entersP (nthS (Geo.edges b) i) a = false) 0) ∧
   (∀ x_1 : Nat, x_1 ≤ (Geo.edges b).length ∧ upto (fun i => Geo.entersP (nthS (Geo.edges b) i) a = false) x_1 → ((x_1 : Int) < (Geo.edges b).length → ix (x_1 : Int) (Geo.edges b).length ∧ x_1 < (Geo.edges b).length ∧ bd 10000 (nthS (Geo.edges b) x_1).a ∧ bd 10000 (nthS (Geo.edges b) x_1).b ∧ a.length ≤ 1000 ∧ (∀ i : Nat, i < (Geo.edges a).length → bd 10000 (nthS (Geo.edges a) i).a ∧ bd 10000 (nthS (Geo.edges a) i).b) ∧ (Geo.entersP (nthS (Geo.edges b) x_1) a = true → true = Geo.overlapP a b) ∧
     (Geo.entersP (nthS (Geo.edges b) x_1) a = false → in64 ((x_1 : Int) + 1) ∧ (x_1 : Int) + 1 = ((x_1 + 1 : Nat) : Int) ∧ x_1 + 1 ≤ (Geo.edges b).length ∧ upto (fun i => Geo.entersP (nthS (Geo.edges b) i) a = false) (x_1 + 1) ∧ (Geo.edges b).length - (x_1 + 1) < (Geo.edges b).length - x_1)) ∧
    (¬ (x_1 : Int) < (Geo.edges b).length → ix 0 a.length ∧ ix 1 a.length ∧ ix 2 a.length ∧ bd 1000000000 (nth a 0) ∧ bd 1000000000 (nth a 1) ∧ bd 1000000000 (nth a 2) ∧ b.length ≤ 1000 ∧ decide (Geo.whereP b (Geo.centerP (nth a 0) (nth a 1) (nth a 2)) = 2) = Geo.overlapP a b))))) (by kernel_rfl) (by
  change TriOk a ∧ TriOk b at hp
  obtain ⟨ha, hb⟩ := hp
  have la := ha.len
  have lb := hb.len
  have l3 := ha.three
  have el : ∀ r : Geo.Ring, r.length ≤ 1000 → (Geo.edges r).length ≤ 1000 := fun r h => by unfold Geo.edges; split <;> simp <;> omega
  have ela := el a la
  have elb := el b lb
  have eb : ∀ r : Geo.Ring, TriOk r → ∀ i : Nat, i < (Geo.edges r).length → bd 10000 (nthS (Geo.edges r) i).a ∧ bd 10000 (nthS (Geo.edges r) i).b := fun r h i hi => by
    have := h.edges _ (List.getElem_mem hi)
    rw [nthS_eq hi]; exact ⟨bd_of this.1, bd_of this.2⟩
  have ea1 : ∀ i : Nat, (i : Int) < (Geo.edges a).length → bd 10000 (nthS (Geo.edges a) i).a := fun i h => (eb a ha i (by omega)).1
  have ea2 : ∀ i : Nat, (i : Int) < (Geo.edges a).length → bd 10000 (nthS (Geo.edges a) i).b := fun i h => (eb a ha i (by omega)).2
  have eb1 : ∀ i : Nat, (i : Int) < (Geo.edges b).length → bd 10000 (nthS (Geo.edges b) i).a := fun i h => (eb b hb i (by omega)).1
  have eb2 : ∀ i : Nat, (i : Int) < (Geo.edges b).length → bd 10000 (nthS (Geo.edges b) i).b := fun i h => (eb b hb i (by omega)).2
  have xa1 : ∀ i : Nat, i < (Geo.edges a).length → bd 10000 (nthS (Geo.edges a) i).a := fun i h => (eb a ha i h).1
  have xa2 : ∀ i : Nat, i < (Geo.edges a).length → bd 10000 (nthS (Geo.edges a) i).b := fun i h => (eb a ha i h).2
  have xb1 : ∀ i : Nat, i < (Geo.edges b).length → bd 10000 (nthS (Geo.edges b) i).a := fun i h => (eb b hb i h).1
  have xb2 : ∀ i : Nat, i < (Geo.edges b).length → bd 10000 (nthS (Geo.edges b) i).b := fun i h => (eb b hb i h).2
  have vb : ∀ i, i < a.length → bd 1000000000 (nth a i) := fun i h => bd_of (ha.near _ (Geo.nth_mem h)) (by decide)
  have v0 := vb 0 (by omega)
  have v1 := vb 1 (by omega)
  have v2 := vb 2 (by omega)
  have t1 : ∀ i : Nat, (i : Int) < (Geo.edges a).length → Geo.entersP (nthS (Geo.edges a) i) b = true → true = Geo.overlapP a b := fun i h h2 => by
    unfold Geo.overlapP
    rw [any_yes (t := .S) (l := Geo.edges a) (q := fun s => Geo.entersP s b) (j := i) (by omega) h2]; rfl
  have t2 : ∀ i : Nat, (i : Int) < (Geo.edges b).length → Geo.entersP (nthS (Geo.edges b) i) a = true → true = Geo.overlapP a b := fun i h h2 => by
    unfold Geo.overlapP
    rw [any_yes (t := .S) (l := Geo.edges b) (q := fun s => Geo.entersP s a) (j := i) (by omega) h2]; simp
  have t3 : ∀ x y : Nat, ¬ (x : Int) < (Geo.edges a).length → x ≤ (Geo.edges a).length → upto (fun i => Geo.entersP (nthS (Geo.edges a) i) b = false) x → ¬ (y : Int) < (Geo.edges b).length → y ≤ (Geo.edges b).length → upto (fun i => Geo.entersP (nthS (Geo.edges b) i) a = false) y → decide (Geo.whereP b (Geo.centerP (nth a 0) (nth a 1) (nth a 2)) = 2) = Geo.overlapP a b := fun x y h1 h2 h3 h4 h5 h6 => by
    obtain rfl : x = (Geo.edges a).length := by omega
    obtain rfl : y = (Geo.edges b).length := by omega
    unfold Geo.overlapP
    rw [any_no (t := .S) (l := Geo.edges a) (q := fun s => Geo.entersP s b) h3, any_no (t := .S) (l := Geo.edges b) (q := fun s => Geo.entersP s a) h6, Bool.false_or, Bool.false_or, Bool.eq_iff_iff]; simp
  clear ha hb eb el vb
  repeat' first | with_reducible apply And.intro | with_reducible intro
  all_goals repeat with_reducible cases ‹_ ∧ upto _ _›
  all_goals first | assumption | rfl | omega | (unfold ix; omega) | (unfold in64; omega) | exact upto_zero _ | exact ea1 _ ‹_› | exact ea2 _ ‹_› | exact eb1 _ ‹_› | exact eb2 _ ‹_› | exact xa1 _ ‹_› | exact xa2 _ ‹_› | exact xb1 _ ‹_› | exact xb2 _ ‹_› | exact t1 _ ‹_› ‹_› | exact t2 _ ‹_› ‹_› | exact t3 _ _ ‹_› ‹_› ‹_› ‹_› ‹_› ‹_› | exact upto_succ ‹_› ‹_›)
def t88 : Tab := tabL [(88, c88)] t158
theorem t88o : t88.Ok Tryz.prog := tabL_ok t158o ⟨k88, trivial⟩
def c85 : Con := con (ac aSh (a1 (aL .V))) (fun (s, r) => [Fit s, TriOk r, (edgesS s).length ≤ 1000000, (∀ e ∈ edgesS s, Geo.within e.a 10000 = true ∧ Geo.within e.b 10000 = true)]) (fun (s, r) => .bool (Geo.withinTP s r))
theorem k85 : c85.Ok Tryz.prog 85 := con_ok (cx_ok t88o) (raw := noRaw) (fun (s, r) => [cnt 2 10 (edgesS s).length (upto fun i => Geo.entersP (nthS (edgesS s) i) r = false)]
  ) (fun (_, _) => ⟨_, rfl⟩) fun (s, r) hp => by_vc (q := Fit s ∧ (0 = (0 : Int) ∧ (0 : Nat) ≤ (edgesS s).length ∧ upto (fun i => Geo.entersP (nthS (edgesS s) i) r = false) 0) ∧
 (∀ x : Nat, x ≤ (edgesS s).length ∧ upto (fun i => Geo.entersP (nthS (edgesS s) i) r = false) x → ((x : Int) < (edgesS s).length → ix (x : Int) (edgesS s).length ∧ bd 10000 (nthS (edgesS s) x).a ∧ bd 10000 (nthS (edgesS s) x).b ∧ r.length ≤ 1000 ∧ (∀ i : Nat, i < (Geo.edges r).length → bd 10000 (nthS (Geo.edges r) i).a ∧ bd 10000 (nthS (Geo.edges r) i).b) ∧ (Geo.entersP (nthS (edgesS s) x) r = true → false = Geo.withinTP s r) ∧
   (Geo.entersP (nthS (edgesS s) x) r = false → in64 ((x : Int) + 1) ∧ (x : Int) + 1 = ((x + 1 : Nat) : Int) ∧ x + 1 ≤ (edgesS s).length ∧ upto (fun i => Geo.entersP (nthS (edgesS s) i) r = false) (x + 1) ∧ (edgesS s).length - (x + 1) < (edgesS s).length - x)) ∧
  (¬ (x : Int) < (edgesS s).length → ix 0 r.length ∧ ix 1 r.length ∧ ix 2 r.length ∧ bd 1000000000 (nth r 0) ∧ bd 1000000000 (nth r 1) ∧ bd 1000000000 (nth r 2) ∧ Fit s ∧ decide (Geo.whereSP s (Geo.centerP (nth r 0) (nth r 1) (nth r 2)) = 2) = Geo.withinTP s r))) (by kernel_rfl) (by
  change Fit s ∧ TriOk r ∧ (edgesS s).length ≤ 1000000 ∧ ((∀ e ∈ edgesS s, Geo.within e.a 10000 = true ∧ Geo.within e.b 10000 = true)) at hp
  obtain ⟨hf, hr, hl, he⟩ := hp
  have lr := hr.len
  have l3 := hr.three
  have e1 : ∀ i : Nat, (i : Int) < (edgesS s).length → bd 10000 (nthS (edgesS s) i).a := fun i h => by rw [nthS_eq (by omega)]; exact bd_of (he _ (List.getElem_mem _)).1
  have e2 : ∀ i : Nat, (i : Int) < (edgesS s).length → bd 10000 (nthS (edgesS s) i).b := fun i h => by rw [nthS_eq (by omega)]; exact bd_of (he _ (List.getElem_mem _)).2
  have x1 : ∀ i : Nat, i < (Geo.edges r).length → bd 10000 (nthS (Geo.edges r) i).a := fun i h => by rw [nthS_eq h]; exact bd_of (hr.edges _ (List.getElem_mem _)).1
  have x2 : ∀ i : Nat, i < (Geo.edges r).length → bd 10000 (nthS (Geo.edges r) i).b := fun i h => by rw [nthS_eq h]; exact bd_of (hr.edges _ (List.getElem_mem _)).2
  have vb : ∀ i, i < r.length → bd 1000000000 (nth r i) := fun i h => bd_of (hr.near _ (Geo.nth_mem h)) (by decide)
  have v0 := vb 0 (by omega)
  have v1 := vb 1 (by omega)
  have v2 := vb 2 (by omega)
  have t1 : ∀ i : Nat, (i : Int) < (edgesS s).length → Geo.entersP (nthS (edgesS s) i) r = true → false = Geo.withinTP s r := fun i h h2 => by
    unfold Geo.withinTP
    rw [all_no (t := .S) (l := edgesS s) (q := fun e => !Geo.entersP e r) (j := i) (by omega) (by rw [show Geo.entersP (LT.S.nth (edgesS s) i) r = true from h2]; rfl)]; rfl
  have t3 : ∀ x : Nat, ¬ (x : Int) < (edgesS s).length → x ≤ (edgesS s).length → upto (fun i => Geo.entersP (nthS (edgesS s) i) r = false) x → decide (Geo.whereSP s (Geo.centerP (nth r 0) (nth r 1) (nth r 2)) = 2) = Geo.withinTP s r := fun x h1 h2 h3 => by
    obtain rfl : x = (edgesS s).length := by omega
    unfold Geo.withinTP
    rw [all_yes (t := .S) (l := edgesS s) (q := fun e => !Geo.entersP e r) (fun j hj => by show (!Geo.entersP (nthS (edgesS s) j) r) = true; rw [show Geo.entersP (nthS (edgesS s) j) r = false from h3 j hj]; rfl), Bool.true_and, Bool.eq_iff_iff]; simp
  clear he hr vb
  repeat' first | with_reducible apply And.intro | with_reducible intro
  all_goals repeat with_reducible cases ‹_ ∧ upto _ _›
  all_goals first | assumption | rfl | omega | (unfold ix; omega) | (unfold in64; omega) | exact upto_zero _ | exact e1 _ ‹_› | exact e2 _ ‹_› | exact x1 _ ‹_› | exact x2 _ ‹_› | exact t1 _ ‹_› ‹_› | exact t3 _ ‹_› ‹_› ‹_› | exact upto_succ ‹_› ‹_›)
def t85 : Tab := tabL [(85, c85)] t88
theorem t85o : t85.Ok Tryz.prog := tabL_ok t88o ⟨k85, trivial⟩
def fgn (v : List Geo.V) (p : Geo.V) : Bool := !v.any fun u => decide (p = u)
def c150 : Con := con (ac (aL .V) (a1 aV)) (fun (l, _) => [l.length ≤ 1000000]) (fun (l, v) => .int .i64 (fI (fun u => decide (v = u)) l))
theorem k150 : c150.Ok Tryz.prog 150 := con_ok (cx_ok t85o) (raw := noRaw) (fun (l, v) => [cnt 2 8 l.length (upto fun j => decide (v = nth l j) = false)]
  ) (fun (_, _) => ⟨_, rfl⟩) fun (l, v) hp => by_vc (q := (0 = (0 : Int) ∧ (0 : Nat) ≤ l.length ∧ upto (fun j => decide (v = nth l j) = false) 0) ∧
 (∀ x : Nat, x ≤ l.length ∧ upto (fun j => decide (v = nth l j) = false) x → ((x : Int) < l.length → ix (x : Int) l.length ∧ (v = (nth l x) → (x : Int) = fI (fun u => decide (v = u)) l) ∧
   (¬ v = (nth l x) → in64 ((x : Int) + 1) ∧ (x : Int) + 1 = ((x + 1 : Nat) : Int) ∧ x + 1 ≤ l.length ∧ upto (fun j => decide (v = nth l j) = false) (x + 1) ∧ l.length - (x + 1) < l.length - x)) ∧
  (¬ (x : Int) < l.length → -1 = fI (fun u => decide (v = u)) l))) (by kernel_rfl) (by
  change l.length ≤ 1000000 at hp
  repeat' first | with_reducible apply And.intro | with_reducible intro
  all_goals repeat with_reducible cases ‹_ ∧ _›
  all_goals first | assumption | rfl | exact trivial | exact nb ‹_› | exact nb' ‹_› | omega | exact ix_mod (by omega) | (unfold ix; omega) | (unfold in64; omega) | exact upto_zero _ | exact upto_succ ‹_› ‹_› | (refine upto_succ ‹_› ?_; simp_all; done) | exact fI_at (t := .V) (by omega) (decide_eq_true ‹_›) ‹_› | (obtain rfl : _ = l.length := Nat.le_antisymm ‹_› (by omega); exact fI_end (t := .V) ‹_›) | grind)
def t150 : Tab := tabL [(150, c150)] t85
theorem t150o : t150.Ok Tryz.prog := tabL_ok t85o ⟨k150, trivial⟩
def c82 : Con := con (ac (aL .V) (a1 aV)) (fun (l, _) => [l.length ≤ 1000000]) (fun (l, v) => .bool (l.any fun u => decide (v = u))
  )
theorem k82 : c82.Ok Tryz.prog 82 := con_ok (cx_ok t150o) (raw := noRaw) (fun (_, _) => []) (fun (_, _) => ⟨_, rfl⟩) fun (l, v) hp => by_vc (q := l.length ≤ 1000000 ∧ decide (0 ≤ fI (fun u => decide (v = u)) l) = List.any l (fun u => decide (v = u))) (by kernel_rfl) (by
  change l.length ≤ 1000000 at hp
  exact ⟨hp, fI_any _ _⟩)
def t82 : Tab := tabL [(82, c82)] t150
theorem t82o : t82.Ok Tryz.prog := tabL_ok t150o ⟨k82, trivial⟩
def c81 : Con := con (ac aV (a1 aPR)) (fun (_, l) => [l.length ≤ 1000000]) (fun (v, l) => .bool (fgn l v)
  )
theorem k81 : c81.Ok Tryz.prog 81 := con_ok (cx_ok t82o) (raw := noRaw) (fun (_, _) => []) (fun (_, _) => ⟨_, rfl⟩) fun (v, l) hp => by_vc (q := l.length ≤ 1000000 ∧ (!List.any l (fun u => decide (v = u))) = fgn l v) (by kernel_rfl) (by
  change l.length ≤ 1000000 at hp
  exact ⟨hp, rfl⟩)
def t81 : Tab := tabL [(81, c81)] t82
theorem t81o : t81.Ok Tryz.prog := tabL_ok t82o ⟨k81, trivial⟩
def aC81 : Ar (Geo.Ring × Unit) := aCl 81 (ac aPR a0)
def aC87 : Ar (Geo.Ring × Unit) := aCl 87 (ac aPR a0)
def c157b : Con := con (ac (aL .V) (a1 aC81)) (fun (l, c) => [l.length ≤ 1000000, c.1.length ≤ 1000000]) (fun (l, c) => .int .i64 (fI (fgn c.1) l))
theorem k157b : c157b.Ok Tryz.prog 157 := con_ok (cx_ok t81o) (raw := noRaw) (fun (l, c) => [cnt 2 8 l.length (upto fun j => fgn c.1 (nth l j) = false)]
  ) (fun (_, _) => ⟨_, rfl⟩) fun (l, c) hp => by_vc (q := (0 = (0 : Int) ∧ (0 : Nat) ≤ l.length ∧ upto (fun j => fgn c.1 (nth l j) = false) 0) ∧
 (∀ x : Nat, x ≤ l.length ∧ upto (fun j => fgn c.1 (nth l j) = false) x → ((x : Int) < l.length → ix (x : Int) l.length ∧ c.1.length ≤ 1000000 ∧ (fgn c.1 (nth l x) = true → (x : Int) = fI (fgn c.1) l) ∧
   (fgn c.1 (nth l x) = false → in64 ((x : Int) + 1) ∧ (x : Int) + 1 = ((x + 1 : Nat) : Int) ∧ x + 1 ≤ l.length ∧ upto (fun j => fgn c.1 (nth l j) = false) (x + 1) ∧ l.length - (x + 1) < l.length - x)) ∧
  (¬ (x : Int) < l.length → -1 = fI (fgn c.1) l))) (by kernel_rfl) (by
  change l.length ≤ 1000000 ∧ c.1.length ≤ 1000000 at hp
  repeat' first | with_reducible apply And.intro | with_reducible intro
  all_goals repeat with_reducible cases ‹_ ∧ _›
  all_goals first | assumption | rfl | exact trivial | exact nb ‹_› | exact nb' ‹_› | omega | exact ix_mod (by omega) | (unfold ix; omega) | (unfold in64; omega) | exact upto_zero _ | exact upto_succ ‹_› ‹_› | (refine upto_succ ‹_› ?_; simp_all; done) | exact fI_at (t := .V) (by omega) ‹_› ‹_› | (obtain rfl : _ = l.length := Nat.le_antisymm ‹_› (by omega); exact fI_end (t := .V) ‹_›) | exact upto_succ ‹_› ‹_› | grind)
def t157b : Tab := tabL [(157, c157b)] t81
theorem t157bo : t157b.Ok Tryz.prog := tabL_ok t81o ⟨k157b, trivial⟩
def c84b : Con := con (ac (aL .V) (a1 aC81)) (fun (l, c) => [l.length ≤ 1000000, c.1.length ≤ 1000000]) (fun (l, c) => .bool (l.any (fgn c.1))
  )
theorem k84b : c84b.Ok Tryz.prog 84 := con_ok (cx_ok t157bo) (raw := noRaw) (fun (_, _) => []) (fun (_, _) => ⟨_, rfl⟩) fun (l, c) hp => by_vc (q := l.length ≤ 1000000 ∧ c.fst.length ≤ 1000000 ∧ decide (0 ≤ fI (fgn c.fst) l) = List.any l (fgn c.1)) (by kernel_rfl) (by
  change l.length ≤ 1000000 ∧ c.1.length ≤ 1000000 at hp
  exact ⟨hp.1, hp.2, fI_any _ _⟩)
def t84b : Tab := tabL [(84, c84b)] t157b
theorem t84bo : t84b.Ok Tryz.prog := tabL_ok t157bo ⟨k84b, trivial⟩
def c87 : Con := con (ac (aL .V) (a1 aPR)) (fun (o, r) => [TriOk r, TriOk o]) (fun (o, r) => .bool (Geo.overlapP r o)
  )
theorem k87 : c87.Ok Tryz.prog 87 := con_ok (cx_ok t84bo) (raw := noRaw) (fun (_, _) => []) (fun (_, _) => ⟨_, rfl⟩) fun (o, r) hp => by_vc (q := TriOk r ∧ TriOk o ∧ Geo.overlapP r o = Geo.overlapP r o) (by kernel_rfl) (by
  change TriOk r ∧ TriOk o at hp
  exact ⟨hp.1, hp.2, rfl⟩)
def t87 : Tab := tabL [(87, c87)] t84b
theorem t87o : t87.Ok Tryz.prog := tabL_ok t84bo ⟨k87, trivial⟩
def c159 : Con := con (ac (aL .R) (a1 aC87)) (fun (l, c) => [l.length ≤ 1000000, TriOk c.1, (∀ o ∈ l, TriOk o)]) (fun (l, c) => .int .i64 (fI (Geo.overlapP c.1) l))
theorem k159 : c159.Ok Tryz.prog 159 := con_ok (cx_ok t87o) (raw := noRaw) (fun (l, c) => [cnt 2 8 l.length (upto fun j => Geo.overlapP c.1 (nthR l j) = false)]
  ) (fun (_, _) => ⟨_, rfl⟩) fun (l, c) hp => by_vc (q := (0 = (0 : Int) ∧ (0 : Nat) ≤ l.length ∧ upto (fun j => Geo.overlapP c.1 (nthR l j) = false) 0) ∧
 (∀ x : Nat, x ≤ l.length ∧ upto (fun j => Geo.overlapP c.1 (nthR l j) = false) x → ((x : Int) < l.length → ix (x : Int) l.length ∧ TriOk c.1 ∧ TriOk (nthR l x) ∧ (Geo.overlapP c.1 (nthR l x) = true → (x : Int) = fI (Geo.overlapP c.1) l) ∧
   (Geo.overlapP c.1 (nthR l x) = false → in64 ((x : Int) + 1) ∧ (x : Int) + 1 = ((x + 1 : Nat) : Int) ∧ x + 1 ≤ l.length ∧ upto (fun j => Geo.overlapP c.1 (nthR l j) = false) (x + 1) ∧ l.length - (x + 1) < l.length - x)) ∧
  (¬ (x : Int) < l.length → -1 = fI (Geo.overlapP c.1) l))) (by kernel_rfl) (by
  change l.length ≤ 1000000 ∧ TriOk c.1 ∧ ((∀ o ∈ l, TriOk o)) at hp
  have hm : ∀ x : Nat, (x : Int) < l.length → TriOk (nthR l x) := fun x h => hp.2.2 _ (Geo.nthR_mem (by omega))
  repeat' first | with_reducible apply And.intro | with_reducible intro
  all_goals repeat with_reducible cases ‹_ ∧ _›
  all_goals first | assumption | rfl | exact trivial | exact nb ‹_› | exact nb' ‹_› | omega | exact ix_mod (by omega) | (unfold ix; omega) | (unfold in64; omega) | exact upto_zero _ | exact upto_succ ‹_› ‹_› | (refine upto_succ ‹_› ?_; simp_all; done) | exact hm _ ‹_› | exact fI_at (t := .R) (by omega) ‹_› ‹_› | (obtain rfl : _ = l.length := Nat.le_antisymm ‹_› (by omega); exact fI_end (t := .R) ‹_›) | grind)
def t159 : Tab := tabL [(159, c159)] t87
theorem t159o : t159.Ok Tryz.prog := tabL_ok t87o ⟨k159, trivial⟩
def c86 : Con := con (ac (aL .R) (a1 aC87)) (fun (l, c) => [l.length ≤ 1000000, TriOk c.1, (∀ o ∈ l, TriOk o)]) (fun (l, c) => .bool (l.any (Geo.overlapP c.1))
  )
theorem k86 : c86.Ok Tryz.prog 86 := con_ok (cx_ok t159o) (raw := noRaw) (fun (_, _) => []) (fun (_, _) => ⟨_, rfl⟩) fun (l, c) hp => by_vc (q := l.length ≤ 1000000 ∧ TriOk c.fst ∧ (∀ o : Geo.Ring, o ∈ l → TriOk o) ∧ decide (0 ≤ fI (Geo.overlapP c.fst) l) = List.any l (Geo.overlapP c.1)) (by kernel_rfl) (by
  change l.length ≤ 1000000 ∧ TriOk c.1 ∧ ((∀ o ∈ l, TriOk o)) at hp
  exact ⟨hp.1, hp.2.1, hp.2.2, fI_any _ _⟩)
def t86 : Tab := tabL [(86, c86)] t159
theorem t86o : t86.Ok Tryz.prog := tabL_ok t159o ⟨k86, trivial⟩
def ckA (s : Geo.Shape) (r : Geo.Ring) : Bool := (decide (¬ (r.length : Int) = 3) || (!Geo.validP r || (r.any (fgn (vOf s)) || !Geo.withinTP s r)))
def ckB (l : List Geo.Ring) (i : Nat) : Bool := (l.take i).any (Geo.overlapP (nthR l i))
def ck (s : Geo.Shape) (l : List Geo.Ring) (i : Nat) : Prop := ckA s (nthR l i) = false ∧ ckB l i = false
def a2 (r : Geo.Ring) : Int := if Geo.validP r = true then Geo.area r else 0
def a2S (l : List Geo.Ring) (k : Nat) : Int := ((l.take k).map a2).sum
def checkP (s : Geo.Shape) (l : List Geo.Ring) : Bool := Geo.validSP s && ((List.range l.length).all fun i => !ckA s (nthR l i) && !ckB l i) && decide (a2S l l.length = areaSh s)
def c28 : Con := con (ac aSh (a1 (aL .R))) (fun (s, l) => [Fit s, l.length ≤ 1000, (∀ r ∈ l, r.length ≤ 1000)]) (fun (s, l) => .bool (checkP s l))
set_option maxHeartbeats 1000000 in
theorem k28 : c28.Ok Tryz.prog 28 := con_ok (cx_ok t86o) (raw := noRaw) (fun (s, l) => [lp 6 20 l.length (fun k => [upto (ck s l) k]) [] (fun k => [(7, .int .i64 (a2S l k))]) (fun _ => []) fun k => [jb 10 44 (ckA s (nthR l k))]]
  ) (fun (_, _) => ⟨_, rfl⟩) fun (s, l) hp => by_vc (q := Fit s ∧ (¬ eOf s = 0 → false = checkP s l) ∧
 (¬ (¬ eOf s = 0) → (0 = (0 : Int) ∧ 0 = a2S l 0 ∧ (0 : Nat) ≤ l.length ∧ upto (ck s l) 0) ∧
  (∀ x : Nat, x ≤ l.length ∧ upto (ck s l) x → ((x : Int) < l.length → ix (x : Int) l.length ∧ ((¬ ((nthR l x).length : Int) = 3 → true = ckA s (nthR l x)) ∧
     (¬ (¬ ((nthR l x).length : Int) = 3) → (nthR l x).length ≤ 1000 ∧ ((!Geo.validP (nthR l x)) = true → true = ckA s (nthR l x)) ∧
      ((!Geo.validP (nthR l x)) = false → (nthR l x).length ≤ 1000000 ∧ (vOf s).length ≤ 1000000 ∧ (List.any (nthR l x) (fgn (vOf s)) = true → true = ckA s (nthR l x)) ∧
       (List.any (nthR l x) (fgn (vOf s)) = false → Fit s ∧ TriOk (nthR l x) ∧ (edgesS s).length ≤ 1000000 ∧ (∀ e : Geo.S, e ∈ edgesS s → Geo.within e.a 10000 = true ∧ Geo.within e.b 10000 = true) ∧ (!Geo.withinTP s (nthR l x)) = ckA s (nthR l x))))) ∧
    (∀ y : Unit, (ckA s (nthR l x) = true → false = checkP s l) ∧
     (ckA s (nthR l x) = false → (0 ≤ (x : Int) ∧ (x : Int) ≤ l.length) ∧ (List.take x l).length ≤ 1000000 ∧ TriOk (nthR l x) ∧ (∀ o : Geo.Ring, o ∈ List.take x l → TriOk o) ∧ (List.any (List.take x l) (Geo.overlapP (nthR l x)) = true → false = checkP s l) ∧
      (List.any (List.take x l) (Geo.overlapP (nthR l x)) = false → (nthR l x).length ≤ 1000 ∧ in64 (a2S l x + (if Geo.validP (nthR l x) = true then Geo.area (nthR l x) else 0)) ∧ in64 ((x : Int) + 1) ∧ (x : Int) + 1 = ((x + 1 : Nat) : Int) ∧ a2S l x + (if Geo.validP (nthR l x) = true then Geo.area (nthR l x) else 0) = a2S l (x + 1) ∧ x + 1 ≤ l.length ∧ upto (ck s l) (x + 1) ∧ l.length - (x + 1) < l.length - x)))) ∧
   (¬ (x : Int) < l.length → Fit s ∧ decide (a2S l x = (if Geo.validSP s = true then areaSh s else 0)) = checkP s l)))) (by kernel_rfl) (by
  change Fit s ∧ l.length ≤ 1000 ∧ ((∀ r ∈ l, r.length ≤ 1000)) at hp
  obtain ⟨hf, hl, hr⟩ := hp
  have R : ¬ ¬ eOf s = 0 → Geo.validSR s = true := fun h => eOf_yes h
  have hvP : ¬ ¬ eOf s = 0 → Geo.validSP s = true := fun h => by rw [Geo.validS_eq]; exact R h
  have V : ¬ ¬ eOf s = 0 → Geo.VS s := fun h => vsR (R h)
  have hv := vOf_le s
  have hvl : (vOf s).length ≤ 1000000 := by omega
  have he : ¬ ¬ eOf s = 0 → (edgesS s).length ≤ 1000000 := fun h => by have := vs_edgesLen (V h); omega
  have hw : ¬ ¬ eOf s = 0 → ∀ e ∈ edgesS s, Geo.within e.a 10000 = true ∧ Geo.within e.b 10000 = true := fun h => vs_edges (V h)
  have hr : ∀ x : Nat, (x : Int) < l.length → (nthR l x).length ≤ 1000 := fun x h => hr _ (Geo.nthR_mem (by omega))
  have hr6 : ∀ x : Nat, (x : Int) < l.length → (nthR l x).length ≤ 1000000 := fun x h => by have := hr x h; omega
  have c0 : ¬ eOf s = 0 → false = checkP s l := fun h => by
    unfold checkP
    rw [Geo.validS_eq]
    cases e : Geo.validSR s with
    | false => rfl
    | true => exact absurd (by unfold eOf; rw [e]; rfl) h
  have a1 : ∀ x : Nat, ¬ ((nthR l x).length : Int) = 3 → true = ckA s (nthR l x) := fun x h => by unfold ckA; rw [decide_eq_true h]; rfl
  have a2' : ∀ x : Nat, (!Geo.validP (nthR l x)) = true → true = ckA s (nthR l x) := fun x h => by unfold ckA; rw [h]; simp
  have a3 : ∀ x : Nat, List.any (nthR l x) (fgn (vOf s)) = true → true = ckA s (nthR l x) := fun x h => by unfold ckA; rw [h]; simp
  have a4 : ∀ x : Nat, ¬ ¬ ((nthR l x).length : Int) = 3 → (!Geo.validP (nthR l x)) = false → List.any (nthR l x) (fgn (vOf s)) = false → (!Geo.withinTP s (nthR l x)) = ckA s (nthR l x) := fun x h1 h2 h3 => by
    unfold ckA; rw [decide_eq_false h1, h2, h3]; rfl
  have kV : ∀ r : Geo.Ring, ckA s r = false → Geo.validP r = true := fun r h => by
    unfold ckA at h
    cases e : Geo.validP r with
    | true => rfl
    | false => rw [e] at h; simp at h
  have tO : ∀ x : Nat, (!Geo.validP (nthR l x)) = false → TriOk (nthR l x) := fun x h => triOk_of (nb h)
  have tO2 : ∀ x : Nat, ckA s (nthR l x) = false → TriOk (nthR l x) := fun x h => triOk_of (kV _ h)
  have tO3 : ∀ x : Nat, x ≤ l.length → upto (ck s l) x → ∀ o ∈ List.take x l, TriOk o := fun x hx h o ho => by
    obtain ⟨j, hj, rfl⟩ := List.getElem_of_mem ho
    rw [List.length_take] at hj
    rw [List.getElem_take, ← nthR_eq (by omega)]
    exact tO2 j (h j (by omega)).1
  have tl : ∀ x : Nat, (List.take x l).length ≤ 1000000 := fun x => by rw [List.length_take]; omega
  have no : ∀ x : Nat, (x : Int) < l.length → (ckA s (nthR l x) = true ∨ List.any (List.take x l) (Geo.overlapP (nthR l x)) = true) → false = checkP s l := fun x h h2 => by
    unfold checkP
    rw [show ((List.range l.length).all fun i => !ckA s (nthR l i) && !ckB l i) = false from List.all_eq_false.2 ⟨x, List.mem_range.2 (by omega), by
      rcases h2 with h2 | h2
      · rw [h2]; simp
      · rw [show ckB l x = true from h2]; simp⟩]
    simp
  have sS : ∀ x : Nat, (x : Int) < l.length → a2S l x + a2 (nthR l x) = a2S l (x + 1) := fun x h => by
    unfold a2S
    rw [List.take_succ_eq_append_getElem (by omega), List.map_append, List.sum_append, nthR_eq (by omega)]; simp
  have b1 : ∀ r : Geo.Ring, -8000000000 ≤ a2 r ∧ a2 r ≤ 8000000000 := fun r => by
    unfold a2; split
    · exact area_bd ‹_›
    · omega
  have bS : ∀ x : Nat, x ≤ l.length → -(8000000000 * (x : Int)) ≤ a2S l x ∧ a2S l x ≤ 8000000000 * (x : Int) := fun x => by
    induction x with
    | zero => intro _; unfold a2S; simp
    | succ x ih =>
      intro h
      have h1 := ih (by omega)
      have h2 := b1 (nthR l x)
      rw [← sS x (by omega)]; omega
  have wS : ∀ x : Nat, (x : Int) < l.length → in64 (a2S l x + a2 (nthR l x)) := fun x h => by
    have h1 := bS x (by omega)
    have h2 := b1 (nthR l x)
    exact i64w (by omega)
  have yE : ¬ ¬ eOf s = 0 → ∀ x : Nat, ¬ (x : Int) < l.length → x ≤ l.length → upto (ck s l) x → decide (a2S l x = (if Geo.validSP s = true then areaSh s else 0)) = checkP s l := fun h x h1 h2 h3 => by
    obtain rfl : x = l.length := by omega
    unfold checkP
    rw [if_pos (hvP h), hvP h, show ((List.range l.length).all fun i => !ckA s (nthR l i) && !ckB l i) = true from List.all_eq_true.2 fun i hi => by
      obtain ⟨g1, g2⟩ := h3 i (List.mem_range.1 hi)
      rw [g1, g2]; rfl]
    simp
  clear V kV b1 bS hvP R
  repeat' first | with_reducible apply And.intro | with_reducible intro
  all_goals repeat with_reducible cases ‹_ ∧ upto _ _›
  all_goals first | assumption | with_reducible rfl | (with_reducible exact c0 ‹_›) | (with_reducible exact he ‹_›) | (with_reducible exact hw ‹_› _ ‹_›) | exact (hw ‹_› _ ‹_›).1 | exact (hw ‹_› _ ‹_›).2 | (with_reducible exact hr _ ‹_›) | (with_reducible exact hr6 _ ‹_›) | (with_reducible exact a1 _ ‹_›) | (with_reducible exact a2' _ ‹_›) | (with_reducible exact a3 _ ‹_›) | (with_reducible exact a4 _ ‹_› ‹_› ‹_›) | (with_reducible exact tO _ ‹_›) | (with_reducible exact tO2 _ ‹_›) | (with_reducible exact tO3 _ ‹_› ‹_› _ ‹_›) | (with_reducible exact tl _) | (with_reducible exact no _ ‹_› (.inl ‹_›)) | (with_reducible exact no _ ‹_› (.inr ‹_›)) | exact sS _ ‹_› | exact wS _ ‹_› | (with_reducible exact yE ‹_› _ ‹_› ‹_› ‹_›) | exact upto_succ ‹_› ⟨‹_›, ‹_›⟩ | exact upto_zero _ | omega | (unfold ix; omega) | (unfold in64; omega) | rfl)
def t28 : Tab := tabL [(28, c28)] t86
theorem t28o : t28.Ok Tryz.prog := tabL_ok t86o ⟨k28, trivial⟩
end
end Go.Proofs.YtdaeofhdgabhjaaGreat
namespace Go.Proofs.YtdaeofhdgabhjaaGreat
open Go.RowKit
def frS (s : Nat) (cells : List PV) (x' y : AV) : Prop := x' = .any ∨ x' = y ∨ ∃ n, y = .own s 0 n ∧ x' = .p (.sl n cells)
def frL (s : Nat) (cells : List PV) : List AV → List AV → Prop
  | [], [] => True
  | x :: l, y :: r => frS s cells x y ∧ frL s cells l r
  | _, _ => False
def frO (s : Nat) (cells : List PV) (L : Sto) : Sto → Prop
  | [] => True
  | (_, none) :: r => frO s cells L r
  | (k, some ob') :: r => (k ≠ s ∧ ∃ ob, look L k = some ob ∧ ob'.ty = ob.ty ∧ ob'.esz = ob.esz ∧ frL s cells ob'.cells ob.cells) ∧ frO s cells L r
theorem frO_look {s : Nat} {cells : List PV} {L : Sto} : ∀ {L' : Sto}, frO s cells L L' → ∀ k ob', look L' k = some ob' → k ≠ s ∧ ∃ ob, look L k = some ob ∧ ob'.ty = ob.ty ∧ ob'.esz = ob.esz ∧ frL s cells ob'.cells ob.cells
  | [], _, k, ob', h => by simp [look] at h
  | (j, x) :: r, hO, k, ob', h => by
    unfold look at h
    split at h
    · rename_i e; subst e
      subst h
      unfold frO at hO
      exact hO.1
    · refine frO_look (L' := r) ?_ k ob' h
      cases x with
      | none => unfold frO at hO; exact hO
      | some ob => unfold frO at hO; exact hO.2
theorem frL_length {s : Nat} {cells : List PV} : ∀ {l r : List AV}, frL s cells l r → l.length = r.length
  | [], [], _ => rfl
  | x :: l, y :: r, h => by unfold frL at h; simp [frL_length h.2]
  | [], _ :: _, h => by unfold frL at h; exact h.elim
  | _ :: _, [], h => by unfold frL at h; exact h.elim
theorem frL_get {s : Nat} {cells : List PV} : ∀ {l r : List AV}, frL s cells l r → ∀ (i : Nat) x, l[i]? = some x → ∃ y, r[i]? = some y ∧ frS s cells x y
  | [], [], _, i, x, h => by simp at h
  | x :: l, y :: r, h, 0, z, hz => by unfold frL at h; simp at hz; subst hz; exact ⟨y, rfl, h.1⟩
  | x :: l, y :: r, h, i + 1, z, hz => by unfold frL at h; exact frL_get h.2 i z (by simpa using hz)
  | [], _ :: _, h, _, _, _ => by unfold frL at h; exact h.elim
  | _ :: _, [], h, _, _, _ => by unfold frL at h; exact h.elim
theorem weak_freeze {F F' : List AV} {L L' : Sto} {N : Nat} {ty esz : Nat} (s : Nat) (cells : List PV) (hs : look L s = some ⟨ty, esz, cells.map .p⟩) (_hz : esz ≠ 0) (hF : frL s cells F' F) (hL : frO s cells L L') : Weak F L N F' L' N := by
  intro C0 B wI a w ⟨⟨ρ, s1, s2, s3⟩, s4, s5, s6, s7⟩
  have hl := frO_look hL
  have hsn : look L' s = none := by
    cases h : look L' s with
    | none => rfl
    | some ob => exact absurd rfl (hl s ob h).1
  have hdead : ∀ k, look L k = none → look L' k = none := by
    intro k hk
    cases h : look L' k with
    | none => rfl
    | some ob => obtain ⟨_, ob2, h2, _⟩ := hl k ob h; rw [hk] at h2; cases h2
  have hmono : ∀ b o v, CellsOf C0 B w ρ (look L) b o v → CellsOf C0 B w ρ (look L') b o v := fun b o v ⟨e1, e2, e3⟩ => ⟨e1, fun k c h => hdead k (e2 k c h), e3⟩
  have hone : ∀ x' y v, frS s cells x' y → RepA ρ (CellsOf C0 B w ρ (look L)) y v → RepA ρ (CellsOf C0 B w ρ (look L')) x' v := by
    rintro x' y v (rfl | rfl | ⟨n, rfl, rfl⟩) hv
    · unfold RepA; trivial
    · exact RepA.mono (fun _ _ h => h) hmono _ v hv
    · unfold RepA at hv ⊢
      obtain ⟨q, c, hρ, hcase⟩ := hv
      obtain ⟨q2, c2, hρ2, hob⟩ := s1.ob s _ hs
      rw [hρ] at hρ2
      cases hρ2
      unfold RepV
      rcases hcase with ⟨h1, h4, h5, _⟩ | ⟨b, o', c', h1, h4, h5, h6, h7⟩
      · subst h5
        rcases hob with ⟨_, _, h8, _⟩ | ⟨b, arr, h8, _⟩
        · exact ⟨none, 0, h4, Nat.le_refl _, fun _ => ⟨rfl, by simpa using h8⟩, fun ad e => by cases e⟩
        · rw [h1] at h8; cases h8
      · obtain ⟨rfl, rfl⟩ := h7 rfl
        rcases hob with ⟨h8, _⟩ | ⟨b2, arr, h8, h9, h10⟩
        · rw [h1] at h8; cases h8
        · rw [h1] at h8; cases h8
          refine ⟨_, c', h4, h5, (fun e => by cases e), fun ad e => ?_⟩
          cases e
          refine ⟨fun _ => rfl, RepC.of _ _ _ fun i x hi => ?_⟩
          obtain ⟨u, k1, k2, k3⟩ := h10.cells i (.p x) (by show (cells.map AV.p)[i]? = _; rw [List.getElem?_map, hi]; rfl)
          unfold RepA at k3
          refine ⟨u, ⟨by rw [Nat.zero_add, h10.cell]; exact k1, fun k c2 hk => ?_, .inl h9⟩, k2, RepV.mono hmono x u k3⟩
          cases h : look L' k with
          | none => rfl
          | some ob =>
            obtain ⟨hne, ob2, h2, _⟩ := hl k ob h
            exact absurd (s1.inj k s ob2 _ b c2 c' h2 hs hk (by rw [hρ, h1])) hne
  refine ⟨⟨ρ, ⟨?_, ?_⟩, s2, ?_⟩, s4, s5, ?_, s7⟩
  · intro k ob' hk
    obtain ⟨hne, ob, h2, h3, h4, h5⟩ := hl k ob' hk
    obtain ⟨q, c, hρ, hcase⟩ := s1.ob k ob h2
    refine ⟨q, c, hρ, ?_⟩
    have hlen := frL_length h5
    rcases hcase with ⟨g1, g2, g3, g4⟩ | ⟨b, arr, g1, g2, g3⟩
    · exact .inl ⟨g1, by rw [h4]; exact g2, by rw [g3] at hlen; exact List.length_eq_zero_iff.1 hlen, g4⟩
    · refine .inr ⟨b, arr, g1, g2, ⟨by rw [h3]; exact g3.blk, fun h => by rw [hlen]; exact g3.box (by rw [← h4]; exact h), fun h => by rw [hlen, h4]; exact g3.row (by rw [← h4]; exact h), fun i x hi => ?_⟩⟩
      obtain ⟨y, k1, k2⟩ := frL_get h5 i x hi
      obtain ⟨v, m1, m2, m3⟩ := g3.cells i y k1
      exact ⟨v, m1, m2, hone x y v k2 m3⟩
  · intro k k' o o' b c c' h1 h2 h3 h4
    obtain ⟨_, ob, g1, _⟩ := hl k o h1
    obtain ⟨_, ob', g2, _⟩ := hl k' o' h2
    exact s1.inj k k' ob ob' b c c' g1 g2 h3 h4
  · intro t
    rcases Nat.lt_or_ge t F'.length with h | h
    · obtain ⟨y, k1, k2⟩ := frL_get hF t F'[t] (List.getElem?_eq_getElem h)
      have e1 : F'.getD t .any = F'[t] := by rw [List.getD_eq_getElem?_getD, List.getElem?_eq_getElem h]; rfl
      have e2 : F.getD t .any = y := by rw [List.getD_eq_getElem?_getD, k1]; rfl
      have h3 := s3 t
      rw [e2] at h3
      rw [e1]
      exact hone _ _ _ k2 h3
    · rw [List.getD_eq_getElem?_getD, List.getElem?_eq_none h]
      show RepA _ _ .any _
      unfold RepA; trivial
  · rw [s6, frL_length hF]
end Go.Proofs.YtdaeofhdgabhjaaGreat
namespace Go.Proofs.YtdaeofhdgabhjaaGreat
open Go.RowKit
def sq : Geo.Shape := ⟨[⟨2, 2⟩, ⟨0, 2⟩, ⟨0, 0⟩, ⟨2, 0⟩], []⟩
def sqD : List Geo.S := [⟨⟨0, 0⟩, ⟨2, 2⟩⟩]
def sqT : List Geo.Ring := [[⟨0, 0⟩, ⟨2, 0⟩, ⟨2, 2⟩], [⟨0, 0⟩, ⟨2, 2⟩, ⟨0, 2⟩]]
theorem sq_fit : Fit sq := by unfold Fit; decide
theorem sq_e : eOf sq = 0 := by kernel_rfl
theorem sq_dOf : dOf sq = sqD := by kernel_rfl
theorem sq_tOf : tOf sq = sqT := by kernel_rfl
theorem sq_ck : checkP sq sqT = true := by kernel_rfl
theorem enc_Rs (l : List Geo.Ring) : (SV.lst .R l).av = .p (ringsP l) := by show AV.p (.sl _ (LT.R.enc _)) = _; rw [enc_R]; rfl
theorem sq_d : Sat Tryz.prog false 19 [shapeP sq] (.tup [segsP sqD, .int .i64 0]) :=
  sat_of (k19 [aSh.enc sq] sq rfl ((andL_iff (l := c19.pre sq)).1 sq_fit)) (by simp only [avs, av_sh]; rfl) (by show (SV.tup [.lst .S (dOf sq), .int .i64 (eOf sq)]).av = _; rw [sq_dOf, sq_e]; rfl)
theorem sq_t : Sat Tryz.prog false 21 [shapeP sq] (.tup [ringsP sqT, .int .i64 0]) :=
  sat_of (k21 [aSh.enc sq] sq rfl ((andL_iff (l := c21.pre sq)).1 sq_fit)) (by simp only [avs, av_sh]; rfl) (by show (SV.tup [.lst .R (tOf sq), .int .i64 (eOf sq)]).av = _; rw [sq_tOf, sq_e]; simp only [SV.av, avs]; rfl)
theorem sq_c : Sat Tryz.prog false 28 [shapeP sq, ringsP sqT] (.bool true) :=
  sat_of (k28 [aSh.enc sq, .lst .R sqT] (sq, sqT) rfl ((andL_iff (l := c28.pre (sq, sqT))).1 ⟨sq_fit, show sqT.length ≤ 1000 by decide, show ∀ r ∈ sqT, r.length ≤ 1000 by decide⟩)) (by simp only [avs, av_sh, enc_Rs]; rfl) (by show (SV.bool (checkP sq sqT)).av = _; rw [sq_ck]; rfl)
theorem sq_sd : Sat Tryz.prog false 24 [segsP sqD, segsP sqD] (.bool true) :=
  sat_of (k24 [.lst .S sqD, .lst .S sqD] (sqD, sqD) rfl ((andL_iff (l := c24.pre (sqD, sqD))).1 (show sqD.length ≤ 1000000 by decide))) rfl (by show (SV.bool (sqD == sqD)).av = _; rw [beq_self_eq_true]; rfl)
theorem sq_st : Sat Tryz.prog false 25 [ringsP sqT, ringsP sqT] (.bool true) :=
  sat_of (k25 [.lst .R sqT, .lst .R sqT] (sqT, sqT) rfl ((andL_iff (l := c25.pre (sqT, sqT))).1 ⟨show sqT.length ≤ 1000000 by decide, show ∀ r ∈ sqT, r.length ≤ 100000 by decide⟩)) (by simp only [avs, enc_Rs]; rfl) (by show (SV.bool (sqT == sqT)).av = _; rw [beq_self_eq_true]; rfl)
set_option maxRecDepth 100000 in
set_option maxHeartbeats 4000000 in
theorem p_awake13  : Sat Tryz.prog false 15 [] (.bool true) := by
 refine sat_of_awp (by kernel_rfl) Tryz.func15 rfl ?_
 rw [Tryz.ntmps15, Tryz.results15]
 show awp _ _ (retP _ _ _) (un 53 []) [] 0
 simp only [un]
 refine pl 1 (by kernel_rfl) rfl fun K0 hK0 => ?_
 refine op (by simp only [go_sem, simprocAttr]; and_intros <;> first | rfl | trivial) (by simp only [PS]; rfl) ?_
 refine aops_done (hK0 _ _ _ ?_)
 refine awp_seq_join (fun Fz Lz Nz => Fz = (.p (.bool false) :: .ptr 7 0 :: .undef :: .undef :: .undef :: .undef :: .p (.agg [.int .i64 2, .int .i64 2]) :: .p (.agg [.int .i64 0, .int .i64 2]) :: .p (.agg [.int .i64 0, .int .i64 0]) :: .p (.agg [.int .i64 2, .int .i64 0]) :: .p (.sl [(⟨2, 2⟩ : Geo.V), (⟨0, 2⟩ : Geo.V), (⟨0, 0⟩ : Geo.V), (⟨2, 0⟩ : Geo.V)].length (encV [(⟨2, 2⟩ : Geo.V), (⟨0, 2⟩ : Geo.V), (⟨0, 0⟩ : Geo.V), (⟨2, 0⟩ : Geo.V)])) :: .any :: .undef :: .undef :: .undef :: .undef :: .undef :: .undef :: .undef :: .undef :: .undef :: .undef :: .undef :: .undef :: .undef :: .undef :: .undef :: .undef :: .undef :: .undef :: .undef :: .undef :: .undef :: .undef :: .undef :: .undef :: .undef :: .undef :: .undef :: .undef :: .undef :: .undef :: .undef :: .undef :: .undef :: .undef :: .undef :: .undef :: .undef :: .undef :: .undef :: .undef :: .undef :: []) ∧ Lz = [(7, some ⟨26, 0, [.p (.sl [(⟨2, 2⟩ : Geo.V), (⟨0, 2⟩ : Geo.V), (⟨0, 0⟩ : Geo.V), (⟨2, 0⟩ : Geo.V)].length (encV [(⟨2, 2⟩ : Geo.V), (⟨0, 2⟩ : Geo.V), (⟨0, 0⟩ : Geo.V), (⟨2, 0⟩ : Geo.V)])), .nil]⟩)] ∧ Nz = 9) ?_ ?_
 {
 refine ple 9 (by kernel_rfl) rfl fun K1 hK1 => ?_
 iterate 4 refine op (by simp only [go_sem, simprocAttr, PS]; and_intros <;> first | rfl | trivial) (by simp only [PS]; rfl) ?_
 refine st 5 5 rfl rfl rfl (by simp only [AOp, evalA, GD, bsliceA, repA, fillA, cellsA, setA, LC, ofConst, constA, Nat.reduceMul, Nat.reduceLeDiff, List.cons_ne_nil, ↓reduceIte, Nat.reduceAdd, LA, LB, T23, T44]; and_intros <;> first | rfl | trivial) (by simp only [PS]; rfl) (by simp only [GS]; rfl) ?_
 refine op (by simp only [go_sem, simprocAttr, PS]; and_intros <;> first | rfl | trivial) (by simp only [PS]; rfl) ?_
 refine st 7 7 rfl rfl rfl (by simp only [AOp, allocA, LA, T26]; and_intros <;> first | rfl | trivial) (by simp only [PS]; rfl) (by simp only [GS]; rfl) ?_
 refine st 8 8 rfl rfl rfl (by simp only [AOp, evalA, GD, storeA, cellsA, setA, LC, LB, look, LA, ↓reduceIte, Nat.reduceAdd, T26]; and_intros <;> first | rfl | trivial) (by simp only [PS]; rfl) (by simp only [GS]; rfl) ?_
 refine aops_done (hK1 _ _ _ ?_)
 try simp only
 refine ⟨_, _, _, ?w1, ⟨rfl, rfl, rfl⟩⟩
 refine weak_freeze (ty := 44) (esz := 2) 5 (encV [(⟨2, 2⟩ : Geo.V), (⟨0, 2⟩ : Geo.V), (⟨0, 0⟩ : Geo.V), (⟨2, 0⟩ : Geo.V)]) (by simp only [look, Nat.reduceEqDiff, ↓reduceIte]; try rfl) (by decide) ?_ ?_
 · simp only [frL, frS, reduceCtorEq, RL] <;> (and_intros <;> first | rfl | trivial | decide | exact .inl rfl | exact .inr (.inl rfl) | exact .inr (.inr ⟨_, rfl, rfl⟩) | exact .inr ⟨_, rfl, rfl⟩)
 · simp only [frL, frO, frS, look, Nat.reduceEqDiff, reduceCtorEq, ↓reduceIte, RL] <;> (and_intros <;> first | rfl | trivial | decide | exact .inl rfl | exact .inr (.inl rfl) | exact .inr (.inr ⟨_, rfl, rfl⟩) | exact .inr ⟨_, rfl, rfl⟩)
 }
 rintro _ _ _ ⟨hFz, rfl, rfl⟩
 (try simp only [an] at hFz); subst hFz
 have c2 : Sat Tryz.prog _ 19 [.agg [.sl [(⟨2, 2⟩ : Geo.V), (⟨0, 2⟩ : Geo.V), (⟨0, 0⟩ : Geo.V), (⟨2, 0⟩ : Geo.V)].length (encV [(⟨2, 2⟩ : Geo.V), (⟨0, 2⟩ : Geo.V), (⟨0, 0⟩ : Geo.V), (⟨2, 0⟩ : Geo.V)]), .sl 0 []]] (.tup [.sl sqD.length (encS sqD), .int .i64 0]) := sq_d
 refine pl 16 (by kernel_rfl) rfl fun K2 hK2 => ?_
 refine op (by simp only [go_sem, simprocAttr]; and_intros <;> first | rfl | trivial) (by simp only [PS]; rfl) ?_
 refine st 10 2 rfl rfl rfl (by simp only [AOp, evalA, GD, callA, LB]; exact .inl (goCall_drop (A := [.agg [.sl [(⟨2, 2⟩ : Geo.V), (⟨0, 2⟩ : Geo.V), (⟨0, 0⟩ : Geo.V), (⟨2, 0⟩ : Geo.V)].length (encV [(⟨2, 2⟩ : Geo.V), (⟨0, 2⟩ : Geo.V), (⟨0, 0⟩ : Geo.V), (⟨2, 0⟩ : Geo.V)]), .sl 0 []]]) c2 (by simp only [optM, snap, Option.map_some]; try rfl) (by simp only [flatM, refs, List.append_nil]; rfl) ⟨rfl, rfl, rfl⟩)) (by simp only [PS]; rfl) (by simp only [LB]; rfl) ?_
 iterate 5 refine op (by simp only [go_sem, simprocAttr]; and_intros <;> first | rfl | trivial) (by simp only [PS]; rfl) ?_
 refine aops_done (hK2 _ _ _ ?_)
 have c3 : Sat Tryz.prog _ 21 [.agg [.sl [(⟨2, 2⟩ : Geo.V), (⟨0, 2⟩ : Geo.V), (⟨0, 0⟩ : Geo.V), (⟨2, 0⟩ : Geo.V)].length (encV [(⟨2, 2⟩ : Geo.V), (⟨0, 2⟩ : Geo.V), (⟨0, 0⟩ : Geo.V), (⟨2, 0⟩ : Geo.V)]), .sl 0 []]] (.tup [.sl sqT.length (List.map ringP sqT), .int .i64 0]) := sq_t
 refine pl 23 (by kernel_rfl) rfl fun K3 hK3 => ?_
 refine op (by simp only [go_sem, simprocAttr]; and_intros <;> first | rfl | trivial) (by simp only [PS]; rfl) ?_
 refine st 17 2 rfl rfl rfl (by simp only [AOp, evalA, GD, callA, LB]; exact .inl (goCall_drop (A := [.agg [.sl [(⟨2, 2⟩ : Geo.V), (⟨0, 2⟩ : Geo.V), (⟨0, 0⟩ : Geo.V), (⟨2, 0⟩ : Geo.V)].length (encV [(⟨2, 2⟩ : Geo.V), (⟨0, 2⟩ : Geo.V), (⟨0, 0⟩ : Geo.V), (⟨2, 0⟩ : Geo.V)]), .sl 0 []]]) c3 (by simp only [optM, snap, Option.map_some]; try rfl) (by simp only [flatM, refs, List.append_nil]; rfl) ⟨rfl, rfl, rfl⟩)) (by simp only [PS]; rfl) (by simp only [LB]; rfl) ?_
 iterate 5 refine op (by simp only [go_sem, simprocAttr]; and_intros <;> first | rfl | trivial) (by simp only [PS]; rfl) ?_
 refine aops_done (hK3 _ _ _ ?_)
 have v4 : ((0 : Int) == 0) = true := by decide
 have c6 : Sat Tryz.prog _ 24 [.sl sqD.length (encS sqD), .sl 1 [.int .i64 0, .int .i64 0, .int .i64 2, .int .i64 2]] (.bool true) := sq_sd
 have c7 : Sat Tryz.prog _ 25 [.sl sqT.length (List.map ringP sqT), .sl 2 [.sl 3 [.int .i64 0, .int .i64 0, .int .i64 2, .int .i64 0, .int .i64 2, .int .i64 2], .sl 3 [.int .i64 0, .int .i64 0, .int .i64 2, .int .i64 2, .int .i64 0, .int .i64 2]]] (.bool true) := sq_st
 have c8 : Sat Tryz.prog _ 28 [.agg [.sl [(⟨2, 2⟩ : Geo.V), (⟨0, 2⟩ : Geo.V), (⟨0, 0⟩ : Geo.V), (⟨2, 0⟩ : Geo.V)].length (encV [(⟨2, 2⟩ : Geo.V), (⟨0, 2⟩ : Geo.V), (⟨0, 0⟩ : Geo.V), (⟨2, 0⟩ : Geo.V)]), .sl 0 []], .sl sqT.length (List.map ringP sqT)] (.bool true) := sq_c
 refine pl 55 (by kernel_rfl) rfl fun K4 hK4 => ?_
 iterate 10 refine op (by simp only [go_sem, simprocAttr, PS, v4, GG]; and_intros <;> first | rfl | trivial) (by simp only [PS]; rfl) ?_
 refine stg 33 11 rfl (by simp only [gdA, GG] <;> rfl) rfl rfl (by simp only [AOp, evalA, GD, bsliceA, repA, fillA, cellsA, setA, LC, ofConst, constA, Nat.reduceLeDiff, List.cons_ne_nil, ↓reduceIte, Nat.reduceAdd, LA, LB, T32, T46]; and_intros <;> first | rfl | trivial) (by simp only [PS]; rfl) (by simp only [GS]; rfl) ?_
 refine spg 12 rfl (by simp only [gdA, GG] <;> rfl) rfl (by simp only [AOp, evalA, GD, callA, LB]; exact .inl (goCall_fresh (A := [.sl sqD.length (encS sqD), .sl 1 [.int .i64 0, .int .i64 0, .int .i64 2, .int .i64 2]]) (c6.fresh rfl) (by simp only [optM, snap, look, Option.bind_some, Option.map_some, List.drop_zero, List.take_succ_cons, List.take_zero, Nat.reduceMul, ↓reduceIte]; try rfl) (by simp only [flatM, refs, look, List.append_nil, List.nil_append, ↓reduceIte]; rfl) ⟨rfl, rfl, rfl⟩)) (by simp only [PS]; rfl) ?_
 iterate 6 refine op (by simp only [go_sem, simprocAttr, PS, GG]; and_intros <;> first | rfl | trivial) (by simp only [PS]; rfl) ?_
 refine stg 41 19 rfl (by simp only [gdA, GG] <;> rfl) rfl rfl (by simp only [AOp, evalA, GD, bsliceA, repA, fillA, cellsA, setA, LC, ofConst, constA, Nat.reduceMul, Nat.reduceLeDiff, List.cons_ne_nil, ↓reduceIte, Nat.reduceAdd, LA, LB, T23, T44]; and_intros <;> first | rfl | trivial) (by simp only [PS]; rfl) (by simp only [GS]; rfl) ?_
 iterate 3 refine op (by simp only [go_sem, simprocAttr, GG, PS]; and_intros <;> first | rfl | trivial) (by simp only [PS]; rfl) ?_
 refine stg 45 23 rfl (by simp only [gdA, GG] <;> rfl) rfl rfl (by simp only [AOp, evalA, GD, bsliceA, repA, fillA, cellsA, setA, LC, ofConst, constA, Nat.reduceMul, Nat.reduceLeDiff, List.cons_ne_nil, ↓reduceIte, Nat.reduceAdd, LA, LB, T23, T44]; and_intros <;> first | rfl | trivial) (by simp only [PS]; rfl) (by simp only [GS]; rfl) ?_
 refine stg 46 24 rfl (by simp only [gdA, GG] <;> rfl) rfl rfl (by simp only [AOp, evalA, GD, bsliceA, repA, fillA, cellsA, setA, LC, ofConst, constA, Nat.reduceLeDiff, List.cons_ne_nil, ↓reduceIte, Nat.reduceAdd, LA, LB, T23, T24]; and_intros <;> first | rfl | trivial) (by simp only [PS]; rfl) (by simp only [GS]; rfl) ?_
 refine spg 25 rfl (by simp only [gdA, GG] <;> rfl) rfl (by simp only [AOp, evalA, GD, callA, LB]; exact .inl (goCall_fresh (A := [.sl sqT.length (List.map ringP sqT), .sl 2 [.sl 3 [.int .i64 0, .int .i64 0, .int .i64 2, .int .i64 0, .int .i64 2, .int .i64 2], .sl 3 [.int .i64 0, .int .i64 0, .int .i64 2, .int .i64 2, .int .i64 0, .int .i64 2]]]) (c7.fresh rfl) (by simp only [optM, snap, look, Nat.reduceEqDiff, Option.bind_some, Option.map_some, List.drop_zero, List.take_succ_cons, List.take_zero, Nat.reduceMul, ↓reduceIte]; try rfl) (by simp only [flatM, refs, look, Nat.reduceEqDiff, List.append_nil, List.cons_append, List.nil_append, ↓reduceIte]; rfl) ⟨rfl, rfl, rfl⟩)) (by simp only [PS]; rfl) ?_
 iterate 4 refine op (by simp only [go_sem, simprocAttr, GG]; and_intros <;> first | rfl | trivial) (by simp only [PS]; rfl) ?_
 refine spg 30 rfl (by simp only [gdA, GG] <;> rfl) rfl (by simp only [AOp, evalA, GD, callA, LB]; exact .inl (goCall_fresh (A := [.agg [.sl [(⟨2, 2⟩ : Geo.V), (⟨0, 2⟩ : Geo.V), (⟨0, 0⟩ : Geo.V), (⟨2, 0⟩ : Geo.V)].length (encV [(⟨2, 2⟩ : Geo.V), (⟨0, 2⟩ : Geo.V), (⟨0, 0⟩ : Geo.V), (⟨2, 0⟩ : Geo.V)]), .sl 0 []], .sl sqT.length (List.map ringP sqT)]) (c8.fresh rfl) (by simp only [optM, snap, Option.map_some]; try rfl) (by simp only [flatM, refs, List.append_nil]; rfl) ⟨rfl, rfl, rfl⟩)) (by simp only [PS]; rfl) ?_
 iterate 2 refine op (by simp only [go_sem, simprocAttr]; and_intros <;> first | rfl | trivial) (by simp only [PS]; rfl) ?_
 refine aops_done (hK4 _ _ _ ?_)
 refine awp_ret ?_
 try simp only [IF, reduceCtorEq, Nat.reduceEqDiff]
 try rw [hret]
 simp only [retP, resA, GD]
 first | exact ⟨_, rfl, rfl⟩ | (refine ⟨_, rfl, ?_⟩; rfl)
noncomputable def c15 : Con := conF false a0 (fun _ => []) (fun _ => .bool true)
theorem k15 : c15.Ok Tryz.prog 15 := con_sat (fun _ => []) (fun _ => .bool true) (fun _ => rfl) (fun _ => rfl) fun _ _ => p_awake13
noncomputable def t15 : Tab := tabL [(15, c15)] t28
theorem t15o : t15.Ok Tryz.prog := tabL_ok t28o ⟨k15, trivial⟩
end Go.Proofs.YtdaeofhdgabhjaaGreat
namespace Go.Proofs.YtdaeofhdgabhjaaGreat
open Go.RowKit
def FewL (l : List Geo.Ring) : Prop := l.length ≤ 1000000000000000000 ∧ ∀ r ∈ l, r.length ≤ 1000000000000000000
def VOk (v : Geo.V) : Prop := in64 v.x ∧ in64 v.y
def vecP (v : Geo.V) : PV := .agg [.int .i64 v.x, .int .i64 v.y]
end Go.Proofs.YtdaeofhdgabhjaaGreat
namespace Go.Proofs.YtdaeofhdgabhjaaGreat
open Go.ChangeShapes Go.WideShapes Go.ChangeAt Go.RowKit Go.Joins Go.Deep
theorem Tryz.own : ownKnob Tryz.prog.godebug = none := by kernel_rfl
theorem Tryz.laidOut : laidOutB Tryz.prog = true := by kernel_rfl
theorem cells26 : Tryz.prog.cellsOf 26 = 2 := by kernel_rfl
theorem cells44 : Tryz.prog.cellsOf 44 = 2 := by kernel_rfl
theorem cells23 : Tryz.prog.cellsOf 23 = 1 := by kernel_rfl
theorem bytes44 : Tryz.prog.bytesOf 44 = 16 := by kernel_rfl
theorem bytes23 : Tryz.prog.bytesOf 23 = 24 := by kernel_rfl
theorem repC_encV {C : CellP} : ∀ (l : List Geo.V) (b o : Nat), (∀ i (h : i < l.length), C b (o + i * 2) (.int .i64 l[i].x) ∧ C b (o + i * 2 + 1) (.int .i64 l[i].y)) → RepC C (encV l) b o
  | [], b, o, _ => by show RepC C [] b o; unfold RepC; trivial
  | v :: l, b, o, h => by
    show RepC C (.int .i64 v.x :: .int .i64 v.y :: encV l) b o
    have h0 := h 0 (by simp)
    unfold RepC
    refine ⟨⟨_, by simpa using h0.1, rfl, by unfold RepV; rfl⟩, ?_⟩
    unfold RepC
    refine ⟨⟨_, by simpa using h0.2, rfl, by unfold RepV; rfl⟩, ?_⟩
    refine repC_encV l b (o + 1 + 1) fun i hi => ?_
    have := h (i + 1) (by simpa using hi)
    rw [show o + 1 + 1 + i * 2 = o + (i + 1) * 2 by omega]
    exact this
theorem repC_rings {C : CellP} : ∀ (l : List Geo.Ring) (b o : Nat), (∀ i (h : i < l.length), ∃ u, C b (o + i) u ∧ u.oneCell' = true ∧ RepV C (ringP l[i]) u) → RepC C (l.map ringP) b o
  | [], b, o, _ => by simp only [List.map_nil]; unfold RepC; trivial
  | r :: l, b, o, h => by
    simp only [List.map_cons]
    unfold RepC
    refine ⟨h 0 (by simp), repC_rings l b (o + 1) fun i hi => ?_⟩
    have := h (i + 1) (by simpa using hi)
    rw [show o + 1 + i = o + (i + 1) by omega]
    exact this
section
variable {H : Type} {enc : TypeId × Value → H} {w : World} {base : Nat} {spare : Nat → Bool} {held : Bool}
theorem open_ring {fuel : Nat} {v : Value} {y : DataW H × List MemPlace} (h : DataW.trod enc Tryz.prog w base spare held fuel 23 [v] = some y) :
    ∃ r : Geo.Ring, RepV (cellW w) (ringP r) v ∧ v.oneCell' = true ∧ ∀ B, (∀ n ∈ DataW.weights Tryz.prog 23 y.1, n ≤ B) → r.length * 16 ≤ B := by
  rcases open_slice_pairs Tryz.underlying23 Tryz.underlying44 cells44 rfl rfl (by kernel_rfl) (by kernel_rfl) h with ⟨h1, h2⟩ | ⟨a, len, cap, m, n, V0, V1, D0, D1, P0, P1, h1, _, hl, _, hm, hx, hc⟩
  · simp only [List.cons.injEq, and_true] at h1
    subst h1
    refine ⟨[], ?_, rfl, fun B _ => by simp⟩
    unfold ringP RepV
    exact ⟨none, 0, rfl, Nat.le_refl _, fun _ => ⟨rfl, rfl⟩, fun ad e => by cases e⟩
  · simp only [List.cons.injEq, and_true] at h1
    subst h1
    have hlm : len ≤ m := by rw [hm]; split <;> omega
    have hint : ∀ i, i < m → ∃ p : Int × Int, V0 i = .int .i64 p.1 ∧ V1 i = .int .i64 p.2 := by
      intro i hi
      obtain ⟨_, _, g3, g4⟩ := hc i hi
      obtain ⟨p, hp, _⟩ := DataW.trod_int Tryz.underlying3 g3
      obtain ⟨q, hq, _⟩ := DataW.trod_int Tryz.underlying3 g4
      simp only [List.cons.injEq, and_true] at hp hq
      exact ⟨(p, q), hp, hq⟩
    obtain ⟨f, hf⟩ := choose_lt (α := Int × Int) (p := fun i p => V0 i = .int .i64 p.1 ∧ V1 i = .int .i64 p.2) hint
    refine ⟨(List.range len).map fun i => ⟨(f i).1, (f i).2⟩, ?_, rfl, fun B hB => ?_⟩
    · unfold ringP RepV
      refine ⟨some a, cap, by simp, by simpa using hl, (fun e => by cases e), fun ad e => ?_⟩
      cases e
      refine ⟨fun hpos => ?_, repC_encV _ _ _ fun i hi => ?_⟩
      · have h0 := (hc 0 (by simp at hpos; omega)).1
        simpa [Addr.add] using World.cell?_spot h0
      · simp only [List.length_map, List.length_range] at hi
        obtain ⟨g1, g2, _⟩ := hc i (by omega)
        obtain ⟨e0, e1⟩ := hf i (by omega)
        have hs : a.spot = none := by simpa [Addr.add] using World.cell?_spot (hc 0 (by omega)).1
        obtain ⟨b, off, sp⟩ := a
        dsimp only at hs
        subst hs
        rw [e0] at g1; rw [e1] at g2
        simp only [List.getElem_map, List.getElem_range]
        unfold cellW
        rw [Addr.add_mid] at g1 g2
        exact ⟨g1, g2⟩
    · have := hB ((len + (m - len)) * 16) (by rw [hx]; simp [DataW.weights, Tryz.underlying23, bytes44])
      simp only [List.length_map, List.length_range]
      omega
theorem open_rings {fuel : Nat} {v : Value} {y : DataW H × List MemPlace} (h : DataW.trod enc Tryz.prog w base spare held fuel 24 [v] = some y) :
    ∃ l : List Geo.Ring, RepV (cellW w) (ringsP l) v ∧ v.oneCell' = true ∧ ∀ B, (∀ n ∈ DataW.weights Tryz.prog 24 y.1, n ≤ B) → l.length * 24 ≤ B ∧ ∀ r ∈ l, r.length * 16 ≤ B := by
  rcases open_slice1 Tryz.underlying24 cells23 h with ⟨h1, h2⟩ | ⟨a, len, cap, m, n, V, D, Pl, h1, _, hl, _, hm, hx, hc⟩
  · simp only [List.cons.injEq, and_true] at h1
    subst h1
    refine ⟨[], ?_, rfl, fun B _ => ⟨by simp, fun r hr => by cases hr⟩⟩
    unfold ringsP RepV
    exact ⟨none, 0, rfl, Nat.le_refl _, fun _ => ⟨rfl, rfl⟩, fun ad e => by cases e⟩
  · simp only [List.cons.injEq, and_true] at h1
    subst h1
    have hlm : len ≤ m := by rw [hm]; split <;> omega
    have hring : ∀ i, i < m → ∃ r : Geo.Ring, RepV (cellW w) (ringP r) (V i) ∧ (V i).oneCell' = true ∧ ∀ B, (∀ n ∈ DataW.weights Tryz.prog 23 (D i), n ≤ B) → r.length * 16 ≤ B := fun i hi => open_ring (hc i hi).2
    obtain ⟨f, hf⟩ := choose_lt (α := Geo.Ring) (p := fun i r => RepV (cellW w) (ringP r) (V i) ∧ (V i).oneCell' = true ∧ ∀ B, (∀ n ∈ DataW.weights Tryz.prog 23 (D i), n ≤ B) → r.length * 16 ≤ B) hring
    refine ⟨(List.range len).map f, ?_, rfl, fun B hB => ?_⟩
    · unfold ringsP RepV
      refine ⟨some a, cap, by simp, by simpa using hl, (fun e => by cases e), fun ad e => ?_⟩
      cases e
      refine ⟨fun hpos => ?_, repC_rings _ _ _ fun i hi => ?_⟩
      · have h0 := (hc 0 (by simp at hpos; omega)).1
        simpa [Addr.add] using World.cell?_spot h0
      · simp only [List.length_map, List.length_range] at hi
        have g1 := (hc i (by omega)).1
        have hs : a.spot = none := by simpa [Addr.add] using World.cell?_spot (hc 0 (by omega)).1
        obtain ⟨b, off, sp⟩ := a
        dsimp only at hs
        subst hs
        rw [Addr.add_mid] at g1
        simp only [List.getElem_map, List.getElem_range]
        exact ⟨V i, g1, (hf i (by omega)).2.1, (hf i (by omega)).1⟩
    · have hw : ∀ x, x ∈ DataW.weights Tryz.prog 24 (DataW.slice ((List.range len).map D) ((List.range (m - len)).map fun j => D (len + j))) → x ≤ B := by rw [hx] at hB; exact hB
      have hmem : ∀ {l : List (DataW H)} {d : DataW H} {x : Nat}, d ∈ l → x ∈ DataW.weights Tryz.prog 23 d → x ∈ DataW.weightsAll Tryz.prog 23 l := by
        intro l
        induction l with
        | nil => intro d x h; cases h
        | cons e l ih =>
          intro d x hd hx
          simp only [DataW.weightsAll, List.mem_append]
          rcases List.mem_cons.1 hd with rfl | hd
          · exact .inl hx
          · exact .inr (ih hd hx)
      refine ⟨?_, fun r hr => ?_⟩
      · have := hw ((len + (m - len)) * 24) (by simp [DataW.weights, Tryz.underlying24, bytes23])
        simp only [List.length_map, List.length_range]
        omega
      · obtain ⟨i, hi, rfl⟩ := List.mem_map.1 hr
        have hi := List.mem_range.1 hi
        refine (hf i (by omega)).2.2 B fun x hx2 => hw x ?_
        simp only [DataW.weights, Tryz.underlying24, List.mem_cons, List.mem_append]
        exact .inr (.inl (hmem (List.mem_map.2 ⟨i, List.mem_range.2 hi, rfl⟩) hx2))
set_option maxRecDepth 100000 in
theorem open_shape {r : Reach} {b0 : Nat} {v : Value} {d : DataW H} {p : List MemPlace} (hv : Value.okWide Tryz.prog w r b0 26 v) (h : DataW.Trod enc Tryz.prog w base spare held 26 v d p) (hw : ∀ n ∈ DataW.weights Tryz.prog 26 d, n ≤ reachBytes) :
    ∃ s : Geo.Shape, RepV (cellW w) (shapeP s) v ∧ BigOk s := by
  obtain ⟨v0, v1, y0, y1, n, rfl, rfl, _, h0, h1⟩ := open_agg2 Tryz.underlying26 (by kernel_rfl) cells26 hv h
  obtain ⟨ro, g1, g2, g3⟩ := open_ring h0
  obtain ⟨rs, g4, g5, g6⟩ := open_rings h1
  have hB : reachBytes ≤ 140737488351232 := of_decide_eq_true (by kernel_rfl)
  have k1 := g3 reachBytes fun x hx => hw x (by simp only [DataW.weights, Tryz.underlying26, List.map_cons, DataW.weightsEach, List.mem_append]; exact .inl hx)
  have k2 := g6 reachBytes fun x hx => hw x (by simp only [DataW.weights, Tryz.underlying26, List.map_cons, DataW.weightsEach, List.mem_append]; exact .inr (.inl hx))
  refine ⟨⟨ro, rs⟩, ?_, by show ro.length ≤ _; omega, by show rs.length ≤ _; omega, fun q hq => by have := k2.2 q hq; omega⟩
  unfold shapeP RepV
  refine ⟨[v0, v1], rfl, ?_, ?_⟩
  · unfold RepL
    refine ⟨v0, [v1], rfl, g1, ?_⟩
    unfold RepL
    exact ⟨v1, [], rfl, g4, by unfold RepL; rfl⟩
  · intro u hu
    simp only [List.mem_cons, List.not_mem_nil, or_false] at hu
    rcases hu with rfl | rfl
    · exact g2
    · exact g5
theorem i64_of_wf {n : Int} (h : (Lit.int .i64 n).wf = true) : in64 n := by
  simp [Lit.wf, IntKind.min, IntKind.max, IntKind.signed, IntKind.bits] at h
  unfold in64; omega
set_option maxRecDepth 100000 in
theorem open_vec {r : Reach} {b0 : Nat} {v : Value} {d : DataW H} {p : List MemPlace} (hv : Value.okWide Tryz.prog w r b0 44 v) (h : DataW.Trod enc Tryz.prog w base spare held 44 v d p) :
    ∃ a : Geo.V, RepV (cellW w) (vecP a) v ∧ VOk a := by
  obtain ⟨v0, v1, y0, y1, n, rfl, _, _, h0, h1⟩ := open_agg2 Tryz.underlying44 (by kernel_rfl) cells44 hv h
  obtain ⟨a, ha, _, wa⟩ := DataW.trod_int Tryz.underlying3 h0
  obtain ⟨b, hb, _, wb⟩ := DataW.trod_int Tryz.underlying3 h1
  simp only [List.cons.injEq, and_true] at ha hb
  subst ha hb
  refine ⟨⟨a, b⟩, ?_, i64_of_wf wa, i64_of_wf wb⟩
  unfold vecP RepV
  refine ⟨[.int .i64 a, .int .i64 b], rfl, ?_, ?_⟩
  · unfold RepL
    refine ⟨.int .i64 a, [.int .i64 b], rfl, by unfold RepV; rfl, ?_⟩
    unfold RepL
    exact ⟨.int .i64 b, [], rfl, by unfold RepV; rfl, by unfold RepL; rfl⟩
  · intro u hu
    simp only [List.mem_cons, List.not_mem_nil, or_false] at hu
    rcases hu with rfl | rfl <;> rfl
end
theorem u8_of_wf {n : Int} (h : (Lit.int .u8 n).wf = true) : ∃ m : Nat, n = (m : Int) ∧ m < 256 := by
  simp [Lit.wf, IntKind.min, IntKind.max, IntKind.signed, IntKind.bits] at h
  exact ⟨n.toNat, by omega, by omega⟩
section
variable {H : Type} {enc : TypeId × Value → H} {w : World} {base : Nat} {spare : Nat → Bool} {held : Bool}
set_option maxRecDepth 100000 in
theorem open_u8 {r : Reach} {b0 : Nat} {v : Value} {d : DataW H} {p : List MemPlace} (hv : Value.okWide Tryz.prog w r b0 5 v) (h : DataW.Trod enc Tryz.prog w base spare held 5 v d p) :
    ∃ n : Nat, RepV (cellW w) (.int .u8 (n : Int)) v ∧ n < 256 := by
  obtain ⟨n, rfl⟩ := okWide_int Tryz.underlying5 hv
  obtain ⟨fuel, h⟩ := h
  obtain ⟨m, h1, _, h3⟩ := DataW.trod_int Tryz.underlying5 h
  have h1 : [Value.int .u8 n] = [.int .u8 m] := h1
  cases h1
  obtain ⟨k, rfl, hk⟩ := u8_of_wf h3
  exact ⟨k, by unfold RepV; rfl, hk⟩
end
theorem av_vec (v : Geo.V) : (aV.enc v).av = .p (vecP v) := rfl
end Go.Proofs.YtdaeofhdgabhjaaGreat
namespace Go.Proofs.YtdaeofhdgabhjaaGreat
open Go.RowKit
noncomputable def c30 : Con := con (a1 aSh) (fun s => [BigOk s]) (fun s => .bool (fewW s && Geo.validSR s))
set_option maxRecDepth 100000 in
theorem k30 : c30.Ok Tryz.prog 30 := con_ok (cx_ok t15o) (raw := noRaw) (fun _ => []
  ) (fun _ => ⟨_, rfl⟩) fun s hp => by_vc (q := BigOk s ∧ (fewW s = true → Fit s ∧ Geo.validSR s = (fewW s && Geo.validSR s)) ∧
 (fewW s = false → false = (fewW s && Geo.validSR s))) (by kernel_rfl) (by
  change BigOk s at hp
  exact ⟨hp, fun h => ⟨fewW_fit hp h, by rw [h]; rfl⟩, fun h => by rw [h]; rfl⟩)
noncomputable def t30 : Tab := tabL [(30, c30)] t15
theorem t30o : t30.Ok Tryz.prog := tabL_ok t15o ⟨k30, trivial⟩
end Go.Proofs.YtdaeofhdgabhjaaGreat
namespace Go.Proofs.YtdaeofhdgabhjaaGreat
open Go.RowKit
theorem tOf_len (s : Geo.Shape) : (tOf s).length ≤ 1000000 := by
  unfold tOf; split
  · unfold trisP
    have h1 := iAcc_length s (vOf s) (tT s) (vOf s).length
    have hv := vOf_le s
    have h4 : (vOf s).length * (vOf s).length ≤ 80 * 80 := Nat.mul_le_mul hv hv
    have h5 : (vOf s).length * ((vOf s).length * (vOf s).length) ≤ 80 * (80 * 80) := Nat.mul_le_mul hv h4
    have h2 := (Geo.sortR_perm (iAcc s (vOf s) (tT s) (vOf s).length)).length_eq
    first | omega | (show (Geo.sortR (iAcc s (vOf s) (tT s) (vOf s).length)).length ≤ 1000000; omega)
  · exact Nat.zero_le _
theorem tOf_low (s : Geo.Shape) : ∀ r ∈ tOf s, r.length ≤ 100000 := fun r hr => by
  unfold tOf at hr; split at hr
  · have := iAcc_small s (vOf s) (tT s) (vOf s).length r ((Geo.sortR_perm _).subset hr)
    omega
  · cases hr
end Go.Proofs.YtdaeofhdgabhjaaGreat
