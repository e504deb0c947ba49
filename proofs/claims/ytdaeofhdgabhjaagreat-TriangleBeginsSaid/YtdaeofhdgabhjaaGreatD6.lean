/- TriangleBegins returns true for every shape, number and vector: no condition. (H6 H7 H8 K21 Q4) -/
import Derived.Test.YtdaeofhdgabhjaaGreatD5
namespace Go.Proofs.YtdaeofhdgabhjaaGreat.Geo
def rot (r : Ring) (k : Nat) : Ring := r.drop k ++ r.take k
theorem rot_perm (r : Ring) (k : Nat) : (rot r k).Perm r := by
  unfold rot
  refine List.perm_append_comm.trans ?_
  rw [List.take_append_drop]
theorem rot_length (r : Ring) (k : Nat) : (rot r k).length = r.length := (rot_perm r k).length_eq
theorem nth_rot {r : Ring} {k i : Nat} (hk : k ≤ r.length) (hi : i < r.length) : nth (rot r k) i = nth r ((i + k) % r.length) := by
  unfold rot nth
  rw [List.getD_eq_getElem?_getD, List.getD_eq_getElem?_getD]
  congr 1
  by_cases h : i < r.length - k
  · rw [List.getElem?_append_left (by simp; omega), List.getElem?_drop, mod_small (by omega)]
    congr 1; omega
  · rw [List.getElem?_append_right (by simp; omega), List.length_drop, List.getElem?_take, if_pos (by omega), mod_wrap (by omega) (by omega)]
    congr 1; omega
theorem mod_succ (i k n : Nat) (_ : 0 < n) : ((i + 1) % n + k) % n = ((i + k) % n + 1) % n := by
  rw [Nat.mod_add_mod, Nat.mod_add_mod]; congr 1; omega
theorem edge_rot {r : Ring} {k i : Nat} (hk : k ≤ r.length) (hi : i < r.length) : edge (rot r k) i = edge r ((i + k) % r.length) := by
  unfold edge nxt
  rw [rot_length, nth_rot hk hi, nth_rot hk (Nat.mod_lt _ (by omega)), mod_succ _ _ _ (by omega)]
theorem edges_rot (r : Ring) {k : Nat} (hk : k ≤ r.length) : edges (rot r k) = (edges r).drop k ++ (edges r).take k := by
  unfold edges
  rw [rot_length]
  split
  · simp
  · apply List.ext_getElem
    · simp; omega
    · intro i h1 h2
      simp only [List.length_map, List.length_range] at h1
      rw [List.getElem_map, List.getElem_range, edge_rot hk h1]
      by_cases h : i < r.length - k
      · rw [List.getElem_append_left (by simp; omega), List.getElem_drop, List.getElem_map, List.getElem_range, mod_small (by omega)]
        congr 1; omega
      · rw [List.getElem_append_right (by simp; omega), List.getElem_take, List.getElem_map, List.getElem_range, mod_wrap (by omega) (by omega)]
        congr 1; simp; omega
theorem edges_rot_perm (r : Ring) {k : Nat} (hk : k ≤ r.length) : (edges (rot r k)).Perm (edges r) := by
  rw [edges_rot r hk]
  refine List.perm_append_comm.trans ?_
  rw [List.take_append_drop]
theorem area_edges {r : Ring} (h : 2 ≤ r.length) : area r = ((edges r).map fun e => cross e.a e.b).sum := by
  unfold area edges
  rw [if_neg (by omega), List.map_map]
  rfl
theorem perm_sumI {l m : List Int} (h : l.Perm m) : l.sum = m.sum := by
  induction h with
  | nil => rfl
  | cons x _ ih => simp only [List.sum_cons, ih]
  | swap x y l => simp only [List.sum_cons]; omega
  | trans _ _ ih1 ih2 => rw [ih1, ih2]
theorem area_rot {r : Ring} (h : 2 ≤ r.length) {k : Nat} (hk : k ≤ r.length) : area (rot r k) = area r := by
  rw [area_edges h, area_edges (by rw [rot_length]; exact h)]
  exact perm_sumI ((edges_rot_perm r hk).map _)
theorem near_perm {r q : Ring} (h : q.Perm r) : near q = near r := by
  unfold near
  rw [Bool.eq_iff_iff, List.all_eq_true, List.all_eq_true]
  exact ⟨fun g v hv => g v (h.mem_iff.2 hv), fun g v hv => g v (h.mem_iff.1 hv)⟩
theorem mod_two (i k n : Nat) (_ : 0 < n) : ((i + 2) % n + k) % n = ((i + k) % n + 2) % n := by
  rw [Nat.mod_add_mod, Nat.mod_add_mod]; congr 1; omega
theorem VR.rot {r : Ring} (h : VR r) {k : Nat} (hk : k ≤ r.length) : VR (rot r k) := by
  have h3 := h.three
  have ht : ∀ i, i < (Geo.rot r k).length → Geo.turn (nth (Geo.rot r k) i) (nth (Geo.rot r k) ((i + 1) % (Geo.rot r k).length)) (nth (Geo.rot r k) ((i + 2) % (Geo.rot r k).length)) ≠ 0 := by
    intro i hi
    rw [rot_length] at hi ⊢
    rw [nth_rot hk hi, nth_rot hk (Nat.mod_lt _ (by omega)), nth_rot hk (Nat.mod_lt _ (by omega)), mod_succ _ _ _ (by omega), mod_two _ _ _ (by omega)]
    exact h.turn' _ (Nat.mod_lt _ (by omega))
  have ha : ∀ a b, a < r.length → b < r.length → a ≠ b → b ≠ (a + 1) % r.length → a ≠ (b + 1) % r.length → meetP (edge r a) (edge r b) = 0 := by
    intro a b h1 h2 h4 h5 h6
    have key : ∀ a b, a < b → b < r.length → b ≠ (a + 1) % r.length → a ≠ (b + 1) % r.length → meetP (edge r a) (edge r b) = 0 := by
      intro a b h1 h2 h5 h6
      refine h.apart a b h1 h2 ?_ ?_
      · rintro rfl; exact h5 (mod_small h2).symm
      · rintro ⟨rfl, rfl⟩; exact h6 (by rw [show r.length - 1 + 1 = r.length by omega, Nat.mod_self])
    rcases Nat.lt_or_ge a b with h7 | h7
    · exact key a b h7 h2 h5 h6
    · rw [meet_comm]; exact key b a (by omega) h1 h6 h5
  have e1 : ∀ i, i < r.length → (i + 1) % r.length = if i + 1 = r.length then 0 else i + 1 := by
    intro i hi; split
    · rename_i e; rw [e, Nat.mod_self]
    · exact mod_small (by omega)
  have hap : ∀ i j, i < j → j < (Geo.rot r k).length → j ≠ i + 1 → ¬ (i = 0 ∧ j = (Geo.rot r k).length - 1) → meetP (edge (Geo.rot r k) i) (edge (Geo.rot r k) j) = 0 := by
    intro i j hij hj h4 h5
    rw [rot_length] at hj h5
    rw [edge_rot hk (by omega), edge_rot hk hj]
    have inj : ∀ x y, x < r.length → y < r.length → (x + k) % r.length = (y + k) % r.length → x = y := by
      intro x y hx hy e
      have hm : ∀ z, z < r.length → (z + k) % r.length = if z + k < r.length then z + k else z + k - r.length := by
        intro z hz; split
        · exact mod_small ‹_›
        · exact mod_wrap (by omega) (by omega)
      rw [hm x hx, hm y hy] at e
      split at e <;> split at e <;> omega
    refine ha _ _ (Nat.mod_lt _ (by omega)) (Nat.mod_lt _ (by omega)) ?_ ?_ ?_
    · intro e; have := inj _ _ (by omega) hj e; omega
    · rw [← mod_succ _ _ _ (by omega)]
      intro e
      have := inj _ _ hj (Nat.mod_lt _ (by omega)) e
      rw [e1 i (by omega)] at this
      split at this <;> omega
    · rw [← mod_succ _ _ _ (by omega)]
      intro e
      have := inj _ _ (by omega) (Nat.mod_lt _ (by omega)) e
      rw [e1 j hj] at this
      split at this <;> omega
  have htn : ∀ i, i < (Geo.rot r k).length → Geo.turn (prv (Geo.rot r k) i) (nth (Geo.rot r k) i) (nxt (Geo.rot r k) i) ≠ 0 := by
    have := turns_iff (Geo.rot r k) (by rw [rot_length]; exact h3)
    rw [Bool.eq_iff_iff, List.all_eq_true, List.all_eq_true] at this
    intro i hi
    have := this.2 (fun i hi => by simpa using ht i (List.mem_range.1 hi)) i (List.mem_range.2 hi)
    simpa using this
  exact ⟨by rw [rot_length]; exact h3, by rw [rot_length]; exact h.most, by rw [near_perm (rot_perm r k)]; exact h.near, by rw [area_rot (by omega) hk]; exact h.area, htn, ht, hap⟩
theorem scan_swap (p : Pt) (a b : S) (l : List S) (ins : Bool) : scanP p (a :: b :: l) ins = scanP p (b :: a :: l) ins := by
  simp only [scanP]
  cases onP a p <;> cases onP b p <;> simp
  congr 1
  cases ins <;> cases hitP a p <;> cases hitP b p <;> rfl
theorem scan_perm (p : Pt) {l m : List S} (h : l.Perm m) : ∀ ins, scanP p l ins = scanP p m ins := by
  induction h with
  | nil => intro ins; rfl
  | cons x _ ih => intro ins; simp only [scanP, ih]
  | swap x y l => intro ins; exact scan_swap p y x l ins
  | trans _ _ ih1 ih2 => intro ins; rw [ih1, ih2]
theorem where_rot {r : Ring} (h : VR r) {k : Nat} (hk : k ≤ r.length) (p : Pt) : whereP (rot r k) p = whereP r p := by
  unfold whereP
  rw [(validP_iff _).2 h, (validP_iff _).2 (h.rot hk), scan_perm p (edges_rot_perm r hk)]
theorem whereV_rot {r : Ring} (h : VR r) {k : Nat} (hk : k ≤ r.length) (v : V) : whereVP (rot r k) v = whereVP r v := by
  unfold whereVP; rw [where_rot h hk]
theorem all_rot {a b : Ring} (hb : VR b) {i j : Nat} (hj : j ≤ b.length) (w : Int) : allP (rot a i) (rot b j) w = allP a b w := by
  unfold allP
  rw [Bool.eq_iff_iff, List.all_eq_true, List.all_eq_true]
  simp only [whereV_rot hb hj]
  exact ⟨fun g v hv => g v ((rot_perm a i).mem_iff.2 hv), fun g v hv => g v ((rot_perm a i).mem_iff.1 hv)⟩
theorem apart_rot {a b : Ring} {i j : Nat} (hi : i ≤ a.length) (hj : j ≤ b.length) : apartP (rot a i) (rot b j) = apartP a b := by
  unfold apartP
  rw [Bool.eq_iff_iff, List.all_eq_true, List.all_eq_true]
  simp only [List.all_eq_true]
  have h1 := edges_rot_perm a hi
  have h2 := edges_rot_perm b hj
  exact ⟨fun g x hx y hy => g x (h1.mem_iff.2 hx) y (h2.mem_iff.2 hy), fun g x hx y hy => g x (h1.mem_iff.1 hx) y (h2.mem_iff.1 hy)⟩
def SepH (a b : Ring) : Prop := apartP a b = true ∧ allP a b 0 = true ∧ allP b a 0 = true
theorem SepH.symm {a b : Ring} (h : SepH a b) : SepH b a := ⟨by rw [apartP_comm]; exact h.1, h.2.2, h.2.1⟩
structure VP (s : Shape) : Prop where
  few : s.holes.length ≤ 6
  outer : VR s.outer
  hole : ∀ h ∈ s.holes, VR h ∧ allP h s.outer 2 = true ∧ apartP h s.outer = true
  corners : cornersS s ≤ 80
  sep : s.holes.Pairwise SepH
theorem VS.vp {s : Shape} (h : VS s) : VP s := by
  refine ⟨h.few, h.outer, fun r hr => ?_, h.corners, ?_⟩
  · obtain ⟨i, hi, rfl⟩ := mem_nthR hr; exact ⟨h.hole i hi, h.ins i hi, h.apo i hi⟩
  · rw [List.pairwise_iff_getElem]
    intro i j hi hj hij
    have en : ∀ i (hi : i < s.holes.length), s.holes[i] = nthR s.holes i := fun i hi => by unfold nthR; rw [List.getD_eq_getElem?_getD, List.getElem?_eq_getElem hi]; rfl
    rw [en i hi, en j hj]
    exact SepH.symm ⟨h.aph j i hij hj, h.out1 j i hij hj, h.out2 j i hij hj⟩
theorem VP.vs {s : Shape} (h : VP s) : VS s := by
  have en : ∀ i (hi : i < s.holes.length), s.holes[i] = nthR s.holes i := fun i hi => by unfold nthR; rw [List.getD_eq_getElem?_getD, List.getElem?_eq_getElem hi]; rfl
  have hs := h.sep
  rw [List.pairwise_iff_getElem] at hs
  have hp : ∀ i k, k < i → i < s.holes.length → SepH (nthR s.holes i) (nthR s.holes k) := fun i k hk hi => by
    have := hs k i (by omega) hi hk
    rw [en k (by omega), en i hi] at this
    exact this.symm
  exact ⟨h.few, h.outer, fun i hi => (h.hole _ (nthR_mem hi)).1, h.corners, fun i hi => (h.hole _ (nthR_mem hi)).2.1, fun i hi => (h.hole _ (nthR_mem hi)).2.2, fun i k hk hi => (hp i k hk hi).1, fun i k hk hi => (hp i k hk hi).2.1, fun i k hk hi => (hp i k hk hi).2.2⟩
structure Begun (s t : Shape) (κ : Ring → Nat) : Prop where
  le : ∀ r, κ r ≤ r.length
  outer : t.outer = rot s.outer (κ s.outer)
  holes : t.holes.Perm (s.holes.map fun r => rot r (κ r))
section
variable {s t : Shape} {κ : Ring → Nat}
theorem perm_sumN {l m : List Nat} (h : l.Perm m) : l.sum = m.sum := by
  induction h with
  | nil => rfl
  | cons x _ ih => simp only [List.sum_cons, ih]
  | swap x y l => simp only [List.sum_cons]; omega
  | trans _ _ ih1 ih2 => rw [ih1, ih2]
theorem Begun.valid (B : Begun s t κ) (h : VS s) : VS t := by
  have h := h.vp
  refine VP.vs ⟨?_, ?_, ?_, ?_, ?_⟩
  · rw [B.holes.length_eq, List.length_map]; exact h.few
  · rw [B.outer]; exact h.outer.rot (B.le _)
  · intro r hr
    obtain ⟨q, hq, rfl⟩ := List.mem_map.1 (B.holes.mem_iff.1 hr)
    obtain ⟨h1, h2, h3⟩ := h.hole q hq
    refine ⟨h1.rot (B.le _), ?_, ?_⟩
    · rw [B.outer, all_rot h.outer (B.le _)]; exact h2
    · rw [B.outer, apart_rot (B.le _) (B.le _)]; exact h3
  · have hc := h.corners
    have e : cornersS t = cornersS s := by
      unfold cornersS ringsS
      simp only [List.map_cons, List.sum_cons]
      rw [B.outer, rot_length, perm_sumN (B.holes.map _), List.map_map]
      congr 2
      apply List.map_congr_left
      intro r _
      exact rot_length r _
    rw [e]; exact hc
  · refine (B.holes.pairwise_iff fun h => h.symm).2 ?_
    rw [List.pairwise_map]
    refine List.Pairwise.imp_of_mem ?_ h.sep
    intro a b ha hb ⟨h1, h2, h3⟩
    exact ⟨by rw [apart_rot (B.le _) (B.le _)]; exact h1, by rw [all_rot (h.hole b hb).1 (B.le _)]; exact h2, by rw [all_rot (h.hole a ha).1 (B.le _)]; exact h3⟩
theorem Begun.mem_edges (B : Begun s t κ) (e : S) : e ∈ edgesS t ↔ e ∈ edgesS s := by
  unfold edgesS ringsS
  simp only [List.flatMap_cons, List.mem_append, List.mem_flatMap]
  rw [B.outer, (edges_rot_perm _ (B.le _)).mem_iff]
  constructor
  · rintro (h | ⟨r, hr, he⟩)
    · exact .inl h
    · obtain ⟨q, hq, rfl⟩ := List.mem_map.1 (B.holes.mem_iff.1 hr)
      exact .inr ⟨q, hq, (edges_rot_perm _ (B.le _)).mem_iff.1 he⟩
  · rintro (h | ⟨r, hr, he⟩)
    · exact .inl h
    · exact .inr ⟨_, B.holes.mem_iff.2 (List.mem_map.2 ⟨r, hr, rfl⟩), (edges_rot_perm _ (B.le _)).mem_iff.2 he⟩
theorem holesP_two {p : Pt} : ∀ {l : List Ring}, holesP p l 2 = 2 ↔ ∀ h ∈ l, whereP h p = 0
  | [] => by simp [holesP]
  | h :: l => by
    have hr : whereP h p = 0 ∨ whereP h p = 1 ∨ whereP h p = 2 := by
      unfold whereP; split
      · exact .inl rfl
      · exact scan_range p _ _
    simp only [holesP, List.mem_cons, forall_eq_or_imp]
    rw [← holesP_two (l := l)]
    rcases hr with e | e | e
    · simp [e]
    · rw [if_neg (by omega), if_pos e]; simp [e]
    · rw [if_pos e]; simp [e]
theorem whereSP_two (s : Shape) (p : Pt) : whereSP s p = 2 ↔ (validSP s = true ∧ whereP s.outer p = 2 ∧ ∀ h ∈ s.holes, whereP h p = 0) := by
  unfold whereSP
  cases validSP s with
  | false => simp
  | true =>
    simp only [Bool.not_true, Bool.false_eq_true, if_false, true_and]
    by_cases h : whereP s.outer p = 2
    · rw [if_neg (by omega), holesP_two]; simp [h]
    · rw [if_pos h]; simp [h]
theorem Begun.inside (B : Begun s t κ) (h : VS s) (p : Pt) : (whereSP t p == 2) = (whereSP s p == 2) := by
  rw [Bool.eq_iff_iff, beq_iff_eq, beq_iff_eq, whereSP_two, whereSP_two, (validSP_iff _).2 h, (validSP_iff _).2 (B.valid h), B.outer, where_rot h.outer (B.le _)]
  refine and_congr_right fun _ => and_congr_right fun _ => ?_
  constructor
  · intro g r hr
    rw [← where_rot (h.vp.hole r hr).1 (B.le r)]
    exact g _ (B.holes.mem_iff.2 (List.mem_map.2 ⟨r, hr, rfl⟩))
  · intro g r hr
    obtain ⟨q, hq, rfl⟩ := List.mem_map.1 (B.holes.mem_iff.1 hr)
    rw [where_rot (h.vp.hole q hq).1 (B.le q)]
    exact g q hq
theorem Begun.chord (B : Begun s t κ) (h : VS s) (c : S) : chordP t c = chordP s c := by
  unfold chordP
  rw [B.inside h]
  congr 1
  rw [Bool.eq_iff_iff, List.all_eq_true, List.all_eq_true]
  exact ⟨fun g e he => g e ((B.mem_edges e).2 he), fun g e he => g e ((B.mem_edges e).1 he)⟩
theorem begin_rot {r : Ring} (h : VR r) {k : Nat} (hk : k ≤ r.length) : begin (rot r k) = begin r := by
  have h3 := h.three
  have hl := leastIx_lt (r := r) (by omega)
  have hl2 := leastIx_lt (r := rot r k) (by rw [rot_length]; omega)
  have e0 : nth r ((leastIx (rot r k) + k) % r.length) = nth r (leastIx r) := by
    have a1 := leastUp_le (rot r k) (rot r k).length
    have a2 := leastUp_le r r.length
    rw [rot_length] at hl2 a1
    have b1 : ∀ x ∈ r, leV (nth r ((leastIx (rot r k) + k) % r.length)) x := by
      intro x hx
      obtain ⟨i, hi, rfl⟩ := mem_nth.1 ((rot_perm r k).mem_iff.2 hx)
      rw [rot_length] at hi
      have := a1 i hi
      rw [show leastUp (rot r k) r.length = leastIx (rot r k) by unfold leastIx; rw [rot_length], nth_rot hk hl2] at this
      exact this
    exact leV_anti (b1 _ (mem_nth.2 ⟨_, hl, rfl⟩)) (a2 _ (Nat.mod_lt _ (by omega)))
  have e1 := h.inj (Nat.mod_lt _ (by omega)) hl e0
  have hb : ∀ i, i < r.length → nth (begin (rot r k)) i = nth (begin r) i := by
    intro i hi
    rw [nth_begin (by rw [rot_length]; exact hi), nth_begin hi, rot_length, nth_rot hk (Nat.mod_lt _ (by omega)), ← e1, Nat.mod_add_mod, Nat.add_mod_mod]
    congr 2; omega
  apply List.ext_getElem
  · rw [begin_length, begin_length, rot_length]
  · intro i h1 h2
    rw [begin_length] at h2
    have := hb i h2
    unfold nth at this
    rw [List.getD_eq_getElem?_getD, List.getD_eq_getElem?_getD, List.getElem?_eq_getElem h1, List.getElem?_eq_getElem (by rw [begin_length]; exact h2)] at this
    simpa using this
theorem Begun.canon (B : Begun s t κ) (h : VS s) : canonS t = canonS s := by
  unfold canonS
  congr 1
  · rw [B.outer, begin_rot h.outer (B.le _)]
  · refine sortH_unique h ?_ (sortH_sorted _)
    refine (sortH_perm _).trans ?_
    refine (B.holes.map begin).trans ?_
    rw [List.map_map]
    rw [List.map_congr_left (g := begin) fun r hr => show (begin ∘ fun r => rot r (κ r)) r = begin r from begin_rot (h.vp.hole r hr).1 (B.le r)]
theorem pairsUp_congr {s t : Shape} (h : ∀ c, chordP t c = chordP s c) (v : List V) : ∀ i, pairsUp t v i = pairsUp s v i
  | 0 => rfl
  | i + 1 => by
    have row : ∀ acc m, rowP t v acc i m = rowP s v acc i m := by
      intro acc m
      induction m with
      | zero => rfl
      | succ m ih => unfold rowP stepP; rw [ih, h]
    unfold pairsUp
    rw [pairsUp_congr h v i, row]
theorem Begun.pairs (B : Begun s t κ) (h : VS s) (v : List V) : pairsP t v = pairsP s v := pairsUp_congr (B.chord h) v _
end
end Go.Proofs.YtdaeofhdgabhjaaGreat.Geo
namespace Go.Proofs.YtdaeofhdgabhjaaGreat.Geo
def mv (u : V) (a : V) : V := ⟨a.x + u.x, a.y + u.y⟩
def mvR (u : V) (r : Ring) : Ring := r.map (mv u)
def mvE (u : V) (s : S) : S := ⟨mv u s.a, mv u s.b⟩
def mvH (u : V) (s : Shape) : Shape := ⟨mvR u s.outer, s.holes.map (mvR u)⟩
def mvP (u : V) (p : Pt) : Pt := ⟨p.x + u.x * p.den, p.y + u.y * p.den, p.den⟩
theorem mv_inj {u a b : V} (h : mv u a = mv u b) : a = b := by
  cases a; cases b; unfold mv at h; simp only [V.mk.injEq] at h ⊢; omega
theorem mv_beq (u a b : V) : (mv u a == mv u b) = (a == b) := by
  rw [Bool.eq_iff_iff, beq_iff_eq, beq_iff_eq]; exact ⟨mv_inj, fun h => by rw [h]⟩
theorem mv_eq (u a b : V) : mv u a = mv u b ↔ a = b := ⟨mv_inj, fun h => by rw [h]⟩
theorem sub_mv (u a b : V) : sub (mv u a) (mv u b) = sub a b := by
  unfold sub mv; simp only [V.mk.injEq]; omega
theorem turn_mv (u a b c : V) : turn (mv u a) (mv u b) (mv u c) = turn a b c := by
  unfold turn; rw [sub_mv, sub_mv]
theorem lessV_mv (u a b : V) : lessV (mv u a) (mv u b) = lessV a b := by
  unfold lessV mv
  rw [Bool.eq_iff_iff]
  simp only [Bool.or_eq_true, Bool.and_eq_true, decide_eq_true_eq, beq_iff_eq]
  omega
theorem cmpI_add (a b c : Int) : cmpI (a + c) (b + c) = cmpI a b := by
  unfold cmpI; repeat' split
  all_goals omega
theorem cmpV_mv (u a b : V) : cmpV (mv u a) (mv u b) = cmpV a b := by
  unfold cmpV mv; rw [cmpI_add, cmpI_add]
theorem inBox_mv (u : V) (s : S) (p : V) : inBox (mvE u s) (mv u p) = inBox s p := by
  unfold inBox mvE mv
  rw [Bool.eq_iff_iff]
  simp only [Bool.and_eq_true, decide_eq_true_eq]
  omega
theorem validS_of {s : S} (ha : within s.a 2000 = true) (hb : within s.b 2000 = true) : validS s = true := by
  unfold validS; rw [within_mono ha (by omega), within_mono hb (by omega)]; rfl
section
variable {u : V}
theorem onS_mv {s : S} (h1 : validS s = true) (h2 : validS (mvE u s) = true) (p : V) : onS (mvE u s) (mv u p) = onS s p := by
  unfold onS; rw [h1, h2, inBox_mv]; unfold mvE; rw [turn_mv]
theorem loS_mv (s : S) : loS (mvE u s) = mv u (loS s) := by
  unfold loS mvE; dsimp only; rw [lessV_mv]; split <;> rfl
theorem hiS_mv (s : S) : hiS (mvE u s) = mv u (hiS s) := by
  unfold hiS mvE; dsimp only; rw [lessV_mv]; split <;> rfl
theorem shareLo_mv (s t : S) : shareLo (mvE u s) (mvE u t) = mv u (shareLo s t) := by
  unfold shareLo; rw [loS_mv, loS_mv, lessV_mv]; split <;> rfl
theorem shareHi_mv (s t : S) : shareHi (mvE u s) (mvE u t) = mv u (shareHi s t) := by
  unfold shareHi; rw [hiS_mv, hiS_mv, lessV_mv]; split <;> rfl
theorem meet_mv {s t : S} (h1 : validS s = true) (h2 : validS (mvE u s) = true) (h3 : validS t = true) (h4 : validS (mvE u t) = true) : meetP (mvE u s) (mvE u t) = meetP s t := by
  have e1 : sub (mvE u s).b (mvE u s).a = sub s.b s.a := sub_mv _ _ _
  have e2 : sub (mvE u t).b (mvE u t).a = sub t.b t.a := sub_mv _ _ _
  have e3 : sub (mvE u t).a (mvE u s).a = sub t.a s.a := sub_mv _ _ _
  have e4 : onS (mvE u t) (mvE u s).a = onS t s.a := onS_mv h3 h4 s.a
  have e5 : onS (mvE u s) (mvE u t).a = onS s t.a := onS_mv h1 h2 t.a
  have e6 : turn (mvE u s).a (mvE u s).b (mvE u t).a = turn s.a s.b t.a := turn_mv _ _ _ _
  have e7 : ((mvE u s).a = (mvE u s).b) = (s.a = s.b) := propext (mv_eq u _ _)
  have e8 : ((mvE u t).a = (mvE u t).b) = (t.a = t.b) := propext (mv_eq u _ _)
  unfold meetP linesK
  simp only [h1, h2, h3, h4, e1, e2, e3, e4, e5, e6, e7, e8, shareLo_mv, shareHi_mv, cmpV_mv]
theorem nth_mv {r : Ring} {i : Nat} (h : i < r.length) : nth (mvR u r) i = mv u (nth r i) := by
  unfold nth mvR
  rw [List.getD_eq_getElem?_getD, List.getD_eq_getElem?_getD, List.getElem?_map, List.getElem?_eq_getElem h]; rfl
theorem len_mv (r : Ring) : (mvR u r).length = r.length := by unfold mvR; simp
theorem nxt_mv {r : Ring} {i : Nat} (h : i < r.length) : nxt (mvR u r) i = mv u (nxt r i) := by
  unfold nxt; rw [len_mv, nth_mv (Nat.mod_lt _ (by omega))]
theorem prv_mv {r : Ring} {i : Nat} (h : i < r.length) : prv (mvR u r) i = mv u (prv r i) := by
  unfold prv; rw [len_mv, nth_mv (Nat.mod_lt _ (by omega))]
theorem edge_mv {r : Ring} {i : Nat} (h : i < r.length) : edge (mvR u r) i = mvE u (edge r i) := by
  unfold edge mvE; rw [nth_mv h, nxt_mv h]
theorem edges_mv (r : Ring) : edges (mvR u r) = (edges r).map (mvE u) := by
  unfold edges
  rw [len_mv]
  split
  · rfl
  · rw [List.map_map]
    apply List.map_congr_left
    intro i hi
    exact edge_mv (List.mem_range.1 hi)
theorem sum_sub (l : List S) (f g : S → Int) : (l.map fun e => f e - g e).sum = (l.map f).sum - (l.map g).sum := by
  induction l with
  | nil => rfl
  | cons x l ih => simp only [List.map_cons, List.sum_cons, ih]; omega
theorem sum_add (l : List S) (f g : S → Int) : (l.map fun e => f e + g e).sum = (l.map f).sum + (l.map g).sum := by
  induction l with
  | nil => rfl
  | cons x l ih => simp only [List.map_cons, List.sum_cons, ih]; omega
theorem sum_mul (l : List S) (c : Int) (f : S → Int) : (l.map fun e => c * f e).sum = c * (l.map f).sum := by
  induction l with
  | nil => simp
  | cons x l ih => simp only [List.map_cons, List.sum_cons, ih, Int.mul_add]
theorem rot_one {r : Ring} (h : 2 ≤ r.length) : (edges r).map S.b = rot r 1 := by
  unfold edges
  rw [if_neg (by omega), List.map_map]
  apply List.ext_getElem
  · rw [rot_length]; simp
  · intro i h1 h2
    rw [rot_length] at h2
    have := nth_rot (r := r) (k := 1) (i := i) (by omega) h2
    rw [List.getElem_map, List.getElem_range]
    show nxt r i = _
    unfold nxt
    rw [← this]
    unfold nth
    rw [List.getD_eq_getElem?_getD, List.getElem?_eq_getElem (by rw [rot_length]; exact h2)]; rfl
theorem rot_none {r : Ring} (h : 2 ≤ r.length) : (edges r).map S.a = r := by
  unfold edges
  rw [if_neg (by omega), List.map_map]
  apply List.ext_getElem
  · simp
  · intro i h1 h2
    rw [List.getElem_map, List.getElem_range]
    show nth r i = _
    unfold nth
    rw [List.getD_eq_getElem?_getD, List.getElem?_eq_getElem h2]; rfl
theorem ends_sum {r : Ring} (h : 2 ≤ r.length) (f : V → Int) : ((edges r).map fun e => f e.b).sum = ((edges r).map fun e => f e.a).sum := by
  have h1 : ((edges r).map fun e => f e.b) = (rot r 1).map f := by rw [← rot_one h, List.map_map]; rfl
  have h2 : ((edges r).map fun e => f e.a) = r.map f := (List.map_map (f := S.a) (g := f) (l := edges r)).symm.trans (by rw [rot_none h])
  rw [h1, h2]
  exact perm_sumI ((rot_perm r 1).map f)
theorem area_mv {r : Ring} (h : 2 ≤ r.length) : area (mvR u r) = area r := by
  rw [area_edges h, area_edges (by rw [len_mv]; exact h), edges_mv, List.map_map]
  have e : ((fun e : S => cross e.a e.b) ∘ mvE u) = fun e : S => (cross e.a e.b + (u.y * e.a.x + -u.x * e.a.y)) - (u.y * e.b.x + -u.x * e.b.y) := by
    funext e
    show cross (mv u e.a) (mv u e.b) = _
    unfold cross mv; grind
  rw [e, sum_sub, sum_add, sum_add, sum_add, sum_mul, sum_mul, sum_mul, sum_mul]
  have hx := ends_sum h V.x
  have hy := ends_sum h V.y
  rw [hx, hy]; omega
theorem VR.mv {r : Ring} (h : VR r) (hn : Geo.near (mvR u r) = true) : VR (mvR u r) := by
  have h3 := h.three
  refine ⟨by rw [len_mv]; exact h3, by rw [len_mv]; exact h.most, hn, by rw [area_mv (by omega)]; exact h.area, ?_, ?_, ?_⟩
  · intro i hi
    rw [len_mv] at hi
    rw [prv_mv hi, nth_mv hi, nxt_mv hi, turn_mv]
    exact h.turn i hi
  · intro i hi
    rw [len_mv] at hi ⊢
    rw [nth_mv hi, nth_mv (Nat.mod_lt _ (by omega)), nth_mv (Nat.mod_lt _ (by omega)), turn_mv]
    exact h.turn' i hi
  · intro i k h1 h2 h4 h5
    have g1 := near_edge hn i (by omega)
    have g2 := near_edge hn k h2
    rw [len_mv] at h2 h5
    rw [edge_mv (by omega)] at g1 ⊢
    rw [edge_mv h2] at g2 ⊢
    rw [meet_mv (near_edge h.near i (by omega)) g1 (near_edge h.near k h2) g2]
    exact h.apart i k h1 h2 h4 h5
theorem toV_mv (p : Pt) (a : V) : toV (mvP u p) (Geo.mv u a) = toV p a := by
  unfold toV mvP Geo.mv; simp only [V.mk.injEq]; grind
theorem side_mv (p : Pt) (s : S) : sideP (mvE u s) (mvP u p) = sideP s p := by
  unfold sideP mvE; dsimp only; rw [sub_mv, toV_mv]
theorem onP_mv (p : Pt) (s : S) : onP (mvE u s) (mvP u p) = onP s p := by
  unfold onP; rw [side_mv]; unfold mvE; dsimp only; rw [toV_mv, toV_mv]
theorem hitP_mv (p : Pt) (s : S) : hitP (mvE u s) (mvP u p) = hitP s p := by
  unfold hitP; rw [side_mv]; unfold mvE; dsimp only; rw [toV_mv, toV_mv]
theorem scan_mv (p : Pt) : ∀ (l : List S) (ins : Bool), scanP (mvP u p) (l.map (mvE u)) ins = scanP p l ins
  | [], _ => rfl
  | s :: l, ins => by
    simp only [List.map_cons, scanP, onP_mv, hitP_mv, scan_mv p l]
theorem where_mv {r : Ring} (h : VR r) (hn : near (mvR u r) = true) {p : Pt} (h1 : validPt p = true) (h2 : validPt (mvP u p) = true) : whereP (mvR u r) (mvP u p) = whereP r p := by
  unfold whereP
  rw [(validP_iff _).2 h, (validP_iff _).2 (h.mv hn), h1, h2, edges_mv, scan_mv]
theorem mvP_ptOf (v : V) : mvP u (ptOf v) = ptOf (Geo.mv u v) := by
  unfold mvP ptOf Geo.mv; simp
theorem whereV_mv {r : Ring} (h : VR r) (hn : near (mvR u r) = true) {v : V} (h1 : within v 4000 = true) (h2 : within (Geo.mv u v) 4000 = true) : whereVP (mvR u r) (Geo.mv u v) = whereVP r v := by
  unfold whereVP
  rw [h1, h2, ← mvP_ptOf, where_mv h hn (by rw [validPt_ptOf]; exact h1) (by rw [mvP_ptOf, validPt_ptOf]; exact h2)]
theorem mem_near {r : Ring} (h : near r = true) {v : V} (hv : v ∈ r) : within v 2000 = true := by
  unfold near at h; rw [List.all_eq_true] at h; exact h v hv
theorem all_mv {a b : Ring} (hb : VR b) (ha : near a = true) (ha2 : near (mvR u a) = true) (hb2 : near (mvR u b) = true) (w : Int) : allP (mvR u a) (mvR u b) w = allP a b w := by
  unfold allP
  rw [show (mvR u a) = a.map (Geo.mv u) from rfl, List.all_map, Bool.eq_iff_iff, List.all_eq_true, List.all_eq_true]
  have e : ∀ v ∈ a, ((fun v => whereVP (mvR u b) v == w) ∘ Geo.mv u) v = (whereVP b v == w) := fun v hv => by
    show (whereVP (mvR u b) (Geo.mv u v) == w) = _
    rw [whereV_mv hb hb2 (within_mono (mem_near ha hv) (by omega)) (within_mono (mem_near ha2 (List.mem_map.2 ⟨v, hv, rfl⟩)) (by omega))]
  exact ⟨fun g v hv => by rw [← e v hv]; exact g v hv, fun g v hv => by rw [e v hv]; exact g v hv⟩
theorem edge_valid {r : Ring} (h : near r = true) {e : S} (he : e ∈ edges r) : validS e = true := by
  obtain ⟨_, i, hi, rfl⟩ := mem_edges.1 he; exact near_edge h i hi
theorem mvE_valid {r : Ring} (h : near (mvR u r) = true) {e : S} (he : e ∈ edges r) : validS (mvE u e) = true :=
  edge_valid h (by rw [edges_mv]; exact List.mem_map.2 ⟨e, he, rfl⟩)
theorem apart_mv {a b : Ring} (ha : near a = true) (hb : near b = true) (ha2 : near (mvR u a) = true) (hb2 : near (mvR u b) = true) : apartP (mvR u a) (mvR u b) = apartP a b := by
  unfold apartP
  rw [edges_mv, edges_mv, List.all_map, Bool.eq_iff_iff, List.all_eq_true, List.all_eq_true]
  have e : ∀ x ∈ edges a, ∀ y ∈ edges b, meetP (mvE u x) (mvE u y) = meetP x y := fun x hx y hy => meet_mv (edge_valid ha hx) (mvE_valid ha2 hx) (edge_valid hb hy) (mvE_valid hb2 hy)
  have e2 : ∀ x ∈ edges a, ((fun x => ((edges b).map (mvE u)).all fun y => meetP x y == 0) ∘ mvE u) x = ((edges b).all fun y => meetP x y == 0) := fun x hx => by
    show (((edges b).map (mvE u)).all fun y => meetP (mvE u x) y == 0) = _
    rw [List.all_map, Bool.eq_iff_iff, List.all_eq_true, List.all_eq_true]
    exact ⟨fun g y hy => by rw [← e x hx y hy]; exact g y hy, fun g y hy => by show (meetP (mvE u x) (mvE u y) == 0) = true; rw [e x hx y hy]; exact g y hy⟩
  exact ⟨fun g x hx => by rw [← e2 x hx]; exact g x hx, fun g x hx => by rw [e2 x hx]; exact g x hx⟩
end
def nearS (s : Shape) : Prop := near s.outer = true ∧ ∀ h ∈ s.holes, near h = true
section
variable {u : V} {s : Shape}
theorem VS.mv (h : VS s) (hn : nearS (mvH u s)) : VS (mvH u s) := by
  have h := h.vp
  obtain ⟨n1, n2⟩ := hn
  have n2 : ∀ r ∈ s.holes, near (mvR u r) = true := fun r hr => n2 _ (List.mem_map.2 ⟨r, hr, rfl⟩)
  refine VP.vs ⟨by show (s.holes.map _).length ≤ 6; rw [List.length_map]; exact h.few, h.outer.mv n1, ?_, ?_, ?_⟩
  · intro r hr
    obtain ⟨q, hq, rfl⟩ := List.mem_map.1 hr
    obtain ⟨h1, h2, h3⟩ := h.hole q hq
    exact ⟨h1.mv (n2 q hq), by show allP (mvR u q) (mvR u s.outer) 2 = true; rw [all_mv h.outer h1.near (n2 q hq) n1]; exact h2, by show apartP (mvR u q) (mvR u s.outer) = true; rw [apart_mv h1.near h.outer.near (n2 q hq) n1]; exact h3⟩
  · have hc := h.corners
    have e : cornersS (mvH u s) = cornersS s := by
      unfold cornersS ringsS mvH
      simp only [List.map_cons, List.sum_cons, len_mv, List.map_map]
      congr 2
      apply List.map_congr_left
      intro r _
      exact len_mv r
    rw [e]; exact hc
  · show (s.holes.map (mvR u)).Pairwise SepH
    rw [List.pairwise_map]
    refine List.Pairwise.imp_of_mem ?_ h.sep
    intro a b ha hb ⟨h1, h2, h3⟩
    have va := (h.hole a ha).1
    have vb := (h.hole b hb).1
    exact ⟨by rw [apart_mv va.near vb.near (n2 a ha) (n2 b hb)]; exact h1, by rw [all_mv vb va.near (n2 a ha) (n2 b hb)]; exact h2, by rw [all_mv va vb.near (n2 b hb) (n2 a ha)]; exact h3⟩
theorem edgesS_mv : edgesS (mvH u s) = (edgesS s).map (mvE u) := by
  unfold edgesS ringsS mvH
  simp only [List.flatMap_cons, List.map_append, edges_mv, List.flatMap_map, List.map_flatMap]
theorem vertsS_mv : vertsS (mvH u s) = (vertsS s).map (Geo.mv u) := by
  unfold vertsS ringsS mvH
  simp only [List.flatten_cons, List.map_append, List.map_flatten]
  rfl
theorem inside_mv (h : VS s) (hn : nearS (mvH u s)) {p : Pt} (h1 : validPt p = true) (h2 : validPt (mvP u p) = true) : (whereSP (mvH u s) (mvP u p) == 2) = (whereSP s p == 2) := by
  have hm := h.mv hn
  obtain ⟨n1, n2⟩ := hn
  rw [Bool.eq_iff_iff, beq_iff_eq, beq_iff_eq, whereSP_two, whereSP_two, (validSP_iff _).2 h, (validSP_iff _).2 hm]
  refine and_congr_right fun _ => ?_
  have e1 : whereP (mvH u s).outer (mvP u p) = whereP s.outer p := where_mv h.outer n1 h1 h2
  rw [e1]
  refine and_congr_right fun _ => ?_
  have e2 : ∀ r ∈ s.holes, whereP (mvR u r) (mvP u p) = whereP r p := fun r hr => where_mv (h.vp.hole r hr).1 (n2 _ (List.mem_map.2 ⟨r, hr, rfl⟩)) h1 h2
  constructor
  · intro g r hr; rw [← e2 r hr]; exact g _ (List.mem_map.2 ⟨r, hr, rfl⟩)
  · intro g r hr; obtain ⟨q, hq, rfl⟩ := List.mem_map.1 hr; rw [e2 q hq]; exact g q hq
theorem tmod_add (x u : Int) : (x + 2 * u).tmod 2 = 0 ↔ x.tmod 2 = 0 := by
  rw [← Int.dvd_iff_tmod_eq_zero, ← Int.dvd_iff_tmod_eq_zero]; omega
theorem tdiv_add {x : Int} (h : x.tmod 2 = 0) (u : Int) : (x + 2 * u).tdiv 2 = x.tdiv 2 + u := by
  obtain ⟨k, rfl⟩ := Int.dvd_iff_tmod_eq_zero.2 h
  rw [← Int.mul_add, Int.mul_tdiv_cancel_left _ (by decide), Int.mul_tdiv_cancel_left _ (by decide)]
theorem middle_mv (c : S) : middleP (mvE u c) = mvP u (middleP c) := by
  have e1 : (mvE u c).a.x + (mvE u c).b.x = (c.a.x + c.b.x) + 2 * u.x := by unfold mvE Geo.mv; dsimp only; omega
  have e2 : (mvE u c).a.y + (mvE u c).b.y = (c.a.y + c.b.y) + 2 * u.y := by unfold mvE Geo.mv; dsimp only; omega
  unfold middleP
  rw [e1, e2]
  generalize c.a.x + c.b.x = x
  generalize c.a.y + c.b.y = y
  by_cases h : x.tmod 2 = 0 ∧ y.tmod 2 = 0
  · rw [if_pos h, if_pos ⟨(tmod_add _ _).2 h.1, (tmod_add _ _).2 h.2⟩, tdiv_add h.1, tdiv_add h.2]
    show (⟨_, _, _⟩ : Pt) = ⟨_, _, _⟩
    simp only [Int.mul_one]
  · rw [if_neg h, if_neg fun g => h ⟨(tmod_add _ _).1 g.1, (tmod_add _ _).1 g.2⟩]
    show (⟨_, _, _⟩ : Pt) = ⟨_, _, _⟩
    simp only [Pt.mk.injEq, and_true]
    omega
theorem gcd_two (x y : Int) (h : ¬ (x.tmod 2 = 0 ∧ y.tmod 2 = 0)) : Nat.gcd (Nat.gcd x.natAbs y.natAbs) 2 = 1 := by
  have hd : Nat.gcd (Nat.gcd x.natAbs y.natAbs) 2 ∣ 2 := Nat.gcd_dvd_right _ _
  have hle := Nat.le_of_dvd (by omega) hd
  have h0 : Nat.gcd (Nat.gcd x.natAbs y.natAbs) 2 ≠ 0 := fun e => by rw [e] at hd; omega
  have h2 : Nat.gcd (Nat.gcd x.natAbs y.natAbs) 2 ≠ 2 := fun e => by
    have g := Nat.gcd_dvd_left (Nat.gcd x.natAbs y.natAbs) 2
    rw [e] at g
    exact h ⟨(tmod_dvd x 2).2 (Nat.dvd_trans g (Nat.gcd_dvd_left _ _)), (tmod_dvd y 2).2 (Nat.dvd_trans g (Nat.gcd_dvd_right _ _))⟩
  omega
theorem validPt_middle {c : S} (ha : within c.a 2000 = true) (hb : within c.b 2000 = true) : validPt (middleP c) = true := by
  unfold within at ha hb
  simp only [Bool.and_eq_true, decide_eq_true_eq] at ha hb
  unfold middleP
  split
  · rename_i h
    unfold validPt boundedP within
    simp only [Bool.and_eq_true, decide_eq_true_eq, beq_iff_eq]
    obtain ⟨k, hk⟩ := Int.dvd_iff_tmod_eq_zero.2 h.1
    obtain ⟨l, hl⟩ := Int.dvd_iff_tmod_eq_zero.2 h.2
    rw [hk, hl, Int.mul_tdiv_cancel_left _ (by decide), Int.mul_tdiv_cancel_left _ (by decide)]
    refine ⟨⟨⟨by omega, by omega⟩, ⟨⟨by omega, by omega⟩, by omega⟩, by omega⟩, ?_⟩
    show Nat.gcd _ 1 = 1
    exact Nat.gcd_one_right _
  · rename_i h
    unfold validPt boundedP within
    simp only [Bool.and_eq_true, decide_eq_true_eq, beq_iff_eq]
    exact ⟨⟨⟨by omega, by omega⟩, ⟨⟨by omega, by omega⟩, by omega⟩, by omega⟩, gcd_two _ _ h⟩
theorem shares_mv (s t : S) : shares (mvE u s) (mvE u t) = shares s t := by
  unfold shares mvE; simp only [mv_beq]
theorem atEnds_mv {s t : S} (h1 : validS s = true) (h2 : validS (mvE u s) = true) (h3 : validS t = true) (h4 : validS (mvE u t) = true) : atEnds (mvE u s) (mvE u t) = atEnds s t := by
  unfold atEnds; rw [meet_mv h1 h2 h3 h4, shares_mv]
theorem vert_near (h : VS s) {v : V} (hv : v ∈ vertsS s) : within v 2000 = true := by
  unfold vertsS at hv
  obtain ⟨r, hr, hv⟩ := List.mem_flatten.1 hv
  exact mem_near (h.ring hr).near hv
theorem edgeS_valid (h : VS s) {e : S} (he : e ∈ edgesS s) : validS e = true := by
  unfold edgesS at he
  obtain ⟨r, hr, he⟩ := List.mem_flatMap.1 he
  exact edge_valid (h.ring hr).near he
theorem chord_mv (h : VS s) (hn : nearS (mvH u s)) {c : S} (ha : c.a ∈ vertsS s) (hb : c.b ∈ vertsS s) : chordP (mvH u s) (mvE u c) = chordP s c := by
  have hm := h.mv hn
  have a1 := vert_near h ha
  have b1 := vert_near h hb
  have a2 : within (mvE u c).a 2000 = true := vert_near hm (by rw [vertsS_mv]; exact List.mem_map.2 ⟨_, ha, rfl⟩)
  have b2 : within (mvE u c).b 2000 = true := vert_near hm (by rw [vertsS_mv]; exact List.mem_map.2 ⟨_, hb, rfl⟩)
  unfold chordP
  rw [middle_mv, inside_mv h hn (validPt_middle a1 b1) (by rw [← middle_mv]; exact validPt_middle a2 b2)]
  congr 1
  rw [edgesS_mv, List.all_map, Bool.eq_iff_iff, List.all_eq_true, List.all_eq_true]
  have e : ∀ x ∈ edgesS s, atEnds (mvE u x) (mvE u c) = atEnds x c := fun x hx => atEnds_mv (edgeS_valid h hx) (edgeS_valid hm (by rw [edgesS_mv]; exact List.mem_map.2 ⟨x, hx, rfl⟩)) (validS_of a1 b1) (validS_of a2 b2)
  exact ⟨fun g x hx => by rw [← e x hx]; exact g x hx, fun g x hx => by show atEnds (mvE u x) (mvE u c) = true; rw [e x hx]; exact g x hx⟩
theorem leastUp_mv (r : Ring) : ∀ n, n ≤ r.length → leastUp (mvR u r) n = leastUp r n
  | 0, _ => rfl
  | n + 1, hn => by
    have h := leastUp_mv r n (by omega)
    have hl : leastUp r n ≤ n := by
      cases n with
      | zero => exact Nat.le_refl _
      | succ n => have := leastUp_lt r (n + 1) (by omega); omega
    unfold leastUp
    rw [h, nth_mv (by omega), nth_mv (by omega), lessV_mv]
theorem begin_mv (r : Ring) : begin (mvR u r) = mvR u (begin r) := by
  unfold begin leastIx
  rw [len_mv, leastUp_mv r _ (Nat.le_refl _)]
  unfold mvR
  rw [List.map_append, List.map_drop, List.map_take]
theorem insH_mv : ∀ (l : List Ring) (h : Ring), (∀ q ∈ l, 0 < q.length) → 0 < h.length → insH (l.map (mvR u)) (mvR u h) = (insH l h).map (mvR u)
  | [], h, _, _ => rfl
  | q :: l, h, hl, hh => by
    rw [List.map_cons]
    unfold insH
    rw [nth_mv (hl q List.mem_cons_self), nth_mv hh, lessV_mv]
    split
    · rw [List.map_cons, insH_mv l h (fun q hq => hl q (List.mem_cons_of_mem _ hq)) hh]
    · rfl
theorem foldl_insH_mv : ∀ (l acc : List Ring), (∀ q ∈ l, 0 < q.length) → (∀ q ∈ acc, 0 < q.length) → (l.map (mvR u)).foldl insH (acc.map (mvR u)) = (l.foldl insH acc).map (mvR u)
  | [], _, _, _ => rfl
  | q :: l, acc, hl, ha => by
    rw [List.map_cons, List.foldl_cons, List.foldl_cons, insH_mv acc q ha (hl q List.mem_cons_self)]
    refine foldl_insH_mv l _ (fun x hx => hl x (List.mem_cons_of_mem _ hx)) fun x hx => ?_
    rcases List.mem_cons.1 ((insH_perm acc q).mem_iff.1 hx) with rfl | hx
    · exact hl _ List.mem_cons_self
    · exact ha x hx
theorem canon_mv (h : VS s) : canonS (mvH u s) = mvH u (canonS s) := by
  unfold canonS mvH
  simp only [begin_mv, List.map_map]
  congr 1
  unfold sortH
  rw [show (begin ∘ mvR u) = (mvR u ∘ begin) from funext fun r => begin_mv r, ← List.map_map]
  refine foldl_insH_mv _ [] (fun q hq => ?_) (fun q hq => by cases hq)
  obtain ⟨r, hr, rfl⟩ := List.mem_map.1 hq
  rw [begin_length]
  have := (h.vp.hole r hr).1.three
  omega
theorem segV_mv {v : List V} {p : Nat × Nat} (h1 : p.1 < v.length) (h2 : p.2 < v.length) : segV (v.map (Geo.mv u)) p = mvE u (segV v p) := by
  unfold segV mvE
  have n1 := nth_mv (u := u) h1
  have n2 := nth_mv (u := u) h2
  unfold mvR at n1 n2
  rw [n1, n2]
theorem pairs_mv (h : VS s) (hn : nearS (mvH u s)) {v : List V} (hv : ∀ x ∈ v, x ∈ vertsS s) (hd : v.Nodup) (i : Nat) (hi : i ≤ v.length) : pairsUp (mvH u s) (v.map (Geo.mv u)) i = pairsUp s v i := by
  have vn : ∀ {x}, x ∈ v → within x 2000 = true := fun hx => vert_near h (hv _ hx)
  have vm : ∀ {x}, x ∈ v → within (Geo.mv u x) 2000 = true := fun hx => vert_near (h.mv hn) (by rw [vertsS_mv]; exact List.mem_map.2 ⟨_, hv _ hx, rfl⟩)
  have nv : ∀ {i}, i < v.length → nth (v.map (Geo.mv u)) i = Geo.mv u (nth v i) := fun hi => nth_mv (u := u) (r := v) hi
  induction i with
  | zero => rfl
  | succ i ih =>
    have ih := ih (by omega)
    have hF := (up_eq h hv hd i (by omega)).2
    have row : ∀ m, i + 1 + m ≤ v.length → rowP (mvH u s) (v.map (Geo.mv u)) (pairsUp s v i) i m = rowP s v (pairsUp s v i) i m := by
      intro m
      induction m with
      | zero => intro _; rfl
      | succ m ihm =>
        intro hm
        have hF2 := (row_eq h hv hd hF m (by omega)).2
        unfold rowP
        rw [ihm (by omega)]
        have ec : chordP (mvH u s) ⟨nth (v.map (Geo.mv u)) i, nth (v.map (Geo.mv u)) (i + 1 + m)⟩ = chordP s ⟨nth v i, nth v (i + 1 + m)⟩ := by
          rw [nv (by omega), nv (by omega)]
          exact chord_mv h hn (c := ⟨nth v i, nth v (i + 1 + m)⟩) (hv _ (nth_mem (by omega))) (hv _ (nth_mem (by omega)))
        have ea : ∀ d ∈ rowP s v (pairsUp s v i) i m, atEnds ⟨nth (v.map (Geo.mv u)) i, nth (v.map (Geo.mv u)) (i + 1 + m)⟩ (segV (v.map (Geo.mv u)) d) = atEnds ⟨nth v i, nth v (i + 1 + m)⟩ (segV v d) := by
          intro d hdm
          obtain ⟨l1, l2⟩ := hF2.lt d hdm
          rw [nv (by omega), nv (by omega), segV_mv (by omega) l2]
          have w1 := vn (nth_mem (v := v) (i := i) (by omega))
          have w2 := vn (nth_mem (v := v) (i := i + 1 + m) (by omega))
          have w3 := vn (nth_mem (v := v) (i := d.1) (by omega))
          have w4 := vn (nth_mem (v := v) (i := d.2) (by omega))
          have m1 := vm (nth_mem (v := v) (i := i) (by omega))
          have m2 := vm (nth_mem (v := v) (i := i + 1 + m) (by omega))
          have m3 := vm (nth_mem (v := v) (i := d.1) (by omega))
          have m4 := vm (nth_mem (v := v) (i := d.2) (by omega))
          exact atEnds_mv (s := ⟨nth v i, nth v (i + 1 + m)⟩) (t := segV v d) (validS_of w1 w2) (validS_of m1 m2) (validS_of w3 w4) (validS_of m3 m4)
        unfold stepP
        rw [ec]
        have eany : ((rowP s v (pairsUp s v i) i m).any fun d => !(atEnds ⟨nth (v.map (Geo.mv u)) i, nth (v.map (Geo.mv u)) (i + 1 + m)⟩ (segV (v.map (Geo.mv u)) d))) = ((rowP s v (pairsUp s v i) i m).any fun d => !(atEnds ⟨nth v i, nth v (i + 1 + m)⟩ (segV v d))) := by
          rw [Bool.eq_iff_iff, List.any_eq_true, List.any_eq_true]
          exact ⟨fun ⟨d, hd, g⟩ => ⟨d, hd, by rw [← ea d hd]; exact g⟩, fun ⟨d, hd, g⟩ => ⟨d, hd, by rw [ea d hd]; exact g⟩⟩
        rw [eany]
    unfold pairsUp
    rw [ih, List.length_map]
    exact row _ (by omega)
theorem diags_mv (h : VS s) (hn : nearS (mvH u s)) : (pairsP (mvH u s) (vertsS (canonS (mvH u s)))).map (segV (vertsS (canonS (mvH u s)))) = ((pairsP s (vertsS (canonS s))).map (segV (vertsS (canonS s)))).map (mvE u) := by
  have hc : vertsS (canonS (mvH u s)) = (vertsS (canonS s)).map (Geo.mv u) := by rw [canon_mv h, vertsS_mv]
  have hv : ∀ x ∈ vertsS (canonS s), x ∈ vertsS s := fun x hx => (canon_verts s).mem_iff.1 hx
  have hd : (vertsS (canonS s)).Nodup := (canon_verts s).nodup_iff.2 h.nodup
  have hp : pairsP (mvH u s) (vertsS (canonS (mvH u s))) = pairsP s (vertsS (canonS s)) := by
    unfold pairsP
    rw [hc, List.length_map]
    exact pairs_mv h hn hv hd _ (Nat.le_refl _)
  rw [hp, hc, List.map_map]
  apply List.map_congr_left
  intro p hpp
  obtain ⟨l1, l2⟩ := (diag_eq h hv hd).2.lt p hpp
  exact segV_mv (by omega) l2
end
end Go.Proofs.YtdaeofhdgabhjaaGreat.Geo
namespace Go.Proofs.YtdaeofhdgabhjaaGreat.Geo
def parL (p : Pt) (l : List S) (ins : Bool) : Bool := l.foldl (fun b s => b != hitP s p) ins
theorem scan_two {p : Pt} : ∀ {l : List S} {ins : Bool}, scanP p l ins = 2 → parL p l ins = true
  | [], ins, h => by unfold scanP at h; unfold parL; cases ins <;> simp_all
  | s :: l, ins, h => by
    unfold scanP at h
    split at h
    · omega
    · exact scan_two (l := l) (ins := ins != hitP s p) h
theorem par_none {p : Pt} : ∀ {l : List S} {ins : Bool}, (∀ s ∈ l, hitP s p = false) → parL p l ins = ins
  | [], _, _ => rfl
  | s :: l, ins, h => by
    show parL p l (ins != hitP s p) = ins
    rw [par_none (fun s hs => h s (List.mem_cons_of_mem _ hs)), h s List.mem_cons_self]; cases ins <;> rfl
def xorL (l : List Bool) : Bool := l.foldr (fun a b => a != b) false
theorem xor_perm {l m : List Bool} (h : l.Perm m) : xorL l = xorL m := by
  induction h with
  | nil => rfl
  | cons x _ ih => show (x != xorL _) = (x != xorL _); rw [ih]
  | swap x y l => show (y != (x != xorL l)) = (x != (y != xorL l)); cases x <;> cases y <;> cases xorL l <;> rfl
  | trans _ _ ih1 ih2 => rw [ih1, ih2]
theorem par_xor {p : Pt} (f : V → Bool) : ∀ {l : List S} {ins : Bool}, (∀ s ∈ l, hitP s p = (f s.a != f s.b)) → parL p l ins = (ins != (xorL (l.map fun s => f s.a) != xorL (l.map fun s => f s.b)))
  | [], ins, _ => by cases ins <;> rfl
  | s :: l, ins, h => by
    show parL p l (ins != hitP s p) = _
    rw [par_xor f (fun s hs => h s (List.mem_cons_of_mem _ hs)), h s List.mem_cons_self]
    show _ = (ins != ((f s.a != xorL _) != (f s.b != xorL _)))
    cases ins <;> cases f s.a <;> cases f s.b <;> cases xorL (l.map fun s => f s.a) <;> cases xorL (l.map fun s => f s.b) <;> rfl
theorem xor_ends {r : Ring} (h : 2 ≤ r.length) (f : V → Bool) : xorL ((edges r).map fun s => f s.a) = xorL ((edges r).map fun s => f s.b) := by
  have h1 : ((edges r).map fun e => f e.b) = (rot r 1).map f := (List.map_map (f := S.b) (g := f) (l := edges r)).symm.trans (by rw [rot_one h])
  have h2 : ((edges r).map fun e => f e.a) = r.map f := (List.map_map (f := S.a) (g := f) (l := edges r)).symm.trans (by rw [rot_none h])
  rw [h1, h2]
  exact xor_perm ((rot_perm r 1).map f).symm
theorem edge_ends {r : Ring} {e : S} (he : e ∈ edges r) : e.a ∈ r ∧ e.b ∈ r := by
  obtain ⟨_, i, hi, rfl⟩ := mem_edges.1 he
  exact ⟨mem_nth.2 ⟨i, hi, rfl⟩, mem_nth.2 ⟨_, Nat.mod_lt _ (by omega), rfl⟩⟩
theorem side_toV (s : S) (p : Pt) (h : p.den = 1) : sideP s p = (toV p s.a).x * (toV p s.b).y - (toV p s.a).y * (toV p s.b).x := by
  unfold sideP toV cross sub; rw [h]; dsimp only; grind
theorem sgnm {x y : Int} : (0 < x → 0 ≤ y → 0 ≤ x * y) ∧ (0 < x → y < 0 → x * y < 0) ∧ (x < 0 → 0 ≤ y → x * y ≤ 0) ∧ (x < 0 → y < 0 → 0 < x * y) := by
  refine ⟨fun h1 h2 => Int.mul_nonneg (by omega) h2, fun h1 h2 => Int.mul_neg_of_pos_of_neg h1 h2, fun h1 h2 => Int.mul_nonpos_of_nonpos_of_nonneg (by omega) h2, fun h1 h2 => Int.mul_pos_of_neg_of_neg h1 h2⟩
theorem hit_right {s : S} {p : Pt} (hd : p.den = 1) (ha : 0 < (toV p s.a).x) (hb : 0 < (toV p s.b).x) : hitP s p = false := by
  unfold hitP
  rw [side_toV s p hd]
  generalize (toV p s.a).x = X1 at *
  generalize (toV p s.b).x = X2 at *
  generalize (toV p s.a).y = Y1
  generalize (toV p s.b).y = Y2
  have a := @sgnm X1 Y2
  have b := @sgnm X2 Y1
  rw [Int.mul_comm Y1 X2]
  by_cases h1 : 0 ≤ Y1 <;> by_cases h2 : 0 ≤ Y2 <;> simp [h1, h2]
  · have := a.2.1 ha (by omega); have := b.1 hb h1; omega
  · have := a.1 ha h2; have := b.2.1 hb (by omega); omega
theorem hit_left {s : S} {p : Pt} (hd : p.den = 1) (ha : (toV p s.a).x < 0) (hb : (toV p s.b).x < 0) : hitP s p = (decide (0 ≤ (toV p s.a).y) != decide (0 ≤ (toV p s.b).y)) := by
  unfold hitP
  rw [side_toV s p hd]
  generalize (toV p s.a).x = X1 at *
  generalize (toV p s.b).x = X2 at *
  generalize (toV p s.a).y = Y1
  generalize (toV p s.b).y = Y2
  have a := @sgnm X1 Y2
  have b := @sgnm X2 Y1
  rw [Int.mul_comm Y1 X2]
  by_cases h1 : 0 ≤ Y1 <;> by_cases h2 : 0 ≤ Y2 <;> simp [h1, h2]
  · have := a.2.2.2 ha (by omega); have := b.2.2.1 hb h1; omega
  · have := a.2.2.1 ha h2; have := b.2.2.2 hb (by omega); omega
theorem hit_y {s : S} {p : Pt} (h : decide (0 ≤ (toV p s.a).y) = decide (0 ≤ (toV p s.b).y)) : hitP s p = false := by
  unfold hitP; rw [h]; simp
theorem inside_box {r : Ring} (h2 : 2 ≤ r.length) {v : V} (h : whereVP r v = 2) : (∃ a ∈ r, a.x ≤ v.x) ∧ (∃ a ∈ r, v.x ≤ a.x) ∧ (∃ a ∈ r, a.y ≤ v.y) ∧ (∃ a ∈ r, v.y ≤ a.y) := by
  unfold whereVP whereP at h
  split at h
  · omega
  split at h
  · omega
  have hp := scan_two h
  have no : ¬ ∀ s ∈ edges r, hitP s (ptOf v) = false := fun hn => by rw [par_none hn] at hp; cases hp
  have tx : ∀ a : V, (toV (ptOf v) a).x = v.x - a.x := fun a => by unfold toV ptOf; simp
  have ty : ∀ a : V, (toV (ptOf v) a).y = v.y - a.y := fun a => by unfold toV ptOf; simp
  refine ⟨Classical.byContradiction fun hn => ?_, Classical.byContradiction fun hn => ?_, Classical.byContradiction fun hn => ?_, Classical.byContradiction fun hn => ?_⟩
  · have hl : ∀ a ∈ r, v.x < a.x := fun a ha => Int.not_le.1 fun hh => hn ⟨a, ha, hh⟩
    rw [par_xor (fun a => decide (0 ≤ (toV (ptOf v) a).y)) (fun s hs => hit_left rfl (by rw [tx]; have := hl _ (edge_ends hs).1; omega) (by rw [tx]; have := hl _ (edge_ends hs).2; omega))] at hp
    have hx := xor_ends h2 (fun a => decide (0 ≤ (toV (ptOf v) a).y))
    rw [hx] at hp
    simp at hp
  · have hl : ∀ a ∈ r, a.x < v.x := fun a ha => Int.not_le.1 fun hh => hn ⟨a, ha, hh⟩
    exact no fun s hs => hit_right rfl (by rw [tx]; have := hl _ (edge_ends hs).1; omega) (by rw [tx]; have := hl _ (edge_ends hs).2; omega)
  · have hl : ∀ a ∈ r, v.y < a.y := fun a ha => Int.not_le.1 fun hh => hn ⟨a, ha, hh⟩
    exact no fun s hs => hit_y (by rw [ty, ty]; have := hl _ (edge_ends hs).1; have := hl _ (edge_ends hs).2; rw [decide_eq_false (by omega), decide_eq_false (by omega)])
  · have hl : ∀ a ∈ r, a.y < v.y := fun a ha => Int.not_le.1 fun hh => hn ⟨a, ha, hh⟩
    exact no fun s hs => hit_y (by rw [ty, ty]; have := hl _ (edge_ends hs).1; have := hl _ (edge_ends hs).2; rw [decide_eq_true (by omega), decide_eq_true (by omega)])
theorem near_mv_holes {s : Shape} (h : VS s) {u : V} (hn : near (mvR u s.outer) = true) : nearS (mvH u s) := by
  refine ⟨hn, fun q hq => ?_⟩
  obtain ⟨r, hr, rfl⟩ := List.mem_map.1 hq
  have hi := (h.vp.hole r hr).2.1
  unfold allP at hi
  rw [List.all_eq_true] at hi
  unfold near
  rw [List.all_eq_true]
  intro w hw
  obtain ⟨v, hv, rfl⟩ := List.mem_map.1 hw
  have h3 := h.outer.three
  have hb := inside_box (r := s.outer) (by omega) (by simpa using hi v hv)
  have hm : ∀ a ∈ s.outer, within (mv u a) 2000 = true := fun a ha => mem_near hn (List.mem_map.2 ⟨a, ha, rfl⟩)
  obtain ⟨⟨a, ha, a1⟩, ⟨b, hb, b1⟩, ⟨c, hc, c1⟩, ⟨d, hd, d1⟩⟩ := hb
  have a2 := hm a ha
  have b2 := hm b hb
  have c2 := hm c hc
  have d2 := hm d hd
  unfold within mv at *
  simp only [Bool.and_eq_true, decide_eq_true_eq] at *
  omega
end Go.Proofs.YtdaeofhdgabhjaaGreat.Geo
namespace Go.Proofs.YtdaeofhdgabhjaaGreat
open Go.RowKit
set_option maxRecDepth 100000
noncomputable section
open Geo (Ring Shape edgesS mvE mvR nth nthR validR validSR)
def aN8 : Ar Nat := ⟨fun n => .int .u8 (n : Int), fun s => match s with | .int .u8 (.ofNat n) => some n | _ => none, fun _ _ h => by
    (split at h <;> cases h; rfl), fun _ => ⟨_, rfl⟩⟩
def mvC (r : Ring) (u : Geo.V) : Int := if validR r = true then (if Geo.within u 4000 = true then (if Geo.near (mvR u r) = true then 0 else 2) else 2) else 11
def mvL (r : Ring) (u : Geo.V) : Ring := if mvC r u = 0 then mvR u r else []
def msC (s : Shape) (u : Geo.V) : Int := if validSR s = true then mvC s.outer u else 11
def msS (s : Shape) (u : Geo.V) : Shape := if msC s u = 0 then ⟨mvR u s.outer, s.holes.map fun h => mvL h u⟩ else ⟨[], []⟩
def tn (n : Nat) (r : Ring) : Ring := Geo.rot r (n % max r.length 1)
theorem tn_le (r : Ring) (n : Nat) : n % max r.length 1 ≤ r.length := by
  have h := Nat.mod_lt n (show 0 < max r.length 1 by omega)
  rcases Nat.eq_zero_or_pos r.length with h0 | h0
  · rw [h0] at h ⊢; omega
  · omega
def tnS (s : Shape) (n : Nat) : Shape := ⟨tn n s.outer, (s.holes.map (tn n)).reverse⟩
def vsm (u : Geo.V) : Prop := bd 4000000000000000000 u
def c40 : Con := con (ac aV (a1 aV)) (fun (a, b) => [bd 4000000000000000000 a, bd 4000000000000000000 b]) (fun (a, b) => aV.enc (Geo.mv b a)
  )
theorem k40 : c40.Ok Tryz.prog 40 := con_ok (cx_ok t30o) (raw := noRaw) (fun (_, _) => []) (fun (_, _) => ⟨_, rfl⟩) fun (a, b) hp => by_vc (q := in64 (a.x + b.x) ∧ in64 (a.y + b.y) ∧ a.x + b.x = (Geo.mv b a).x ∧ a.y + b.y = (Geo.mv b a).y) (by kernel_rfl) (by
  change bd 4000000000000000000 a ∧ bd 4000000000000000000 b at hp
  obtain ⟨⟨⟨h1, h2⟩, h3, h4⟩, ⟨h5, h6⟩, h7, h8⟩ := hp
  exact ⟨i64w (by omega), i64w (by omega), rfl, rfl⟩)
def t40 : Tab := tabL [(40, c40)] t30
theorem t40o : t40.Ok Tryz.prog := tabL_ok t30o ⟨k40, trivial⟩
def c105 : Con := con (ac (aL .V) (a1 aV)) (fun (r, _) => [r.length ≤ 100000]) (fun (r, u) => .tup [.lst .V (mvL r u), .int .i64 (mvC r u)])
theorem k105 : c105.Ok Tryz.prog 105 := con_ok (cx_ok t40o) (raw := fun r i => (Nat.beq r 0 && Nat.beq i 1) || (Nat.beq r 2 && Nat.beq i 0) || (Nat.beq r 4 && Nat.beq i 0) || (Nat.beq r 11 && Nat.beq i 0)) (fun (r, u) => [lp 7 7 r.length (fun _ => []) [900] (fun k => [(6, .own 900 .V k)]) (fun k => [(900, .row 44 .V ((mvR u r).take k))])]
  ) (fun (_, _) => ⟨_, rfl⟩) fun (r, u) hp => by_vc (q := r.length ≤ 100000 ∧ ((!validR r) = true → mvL r u = ([] : List Geo.V) ∧ 11 = mvC r u) ∧
 ((!validR r) = false → (0 : Int) ≤ 4000 ∧ (4000 : Int) ≤ 1000000000000 ∧ ((!Geo.within u 4000) = true → mvL r u = ([] : List Geo.V) ∧ 2 = mvC r u) ∧
  ((!Geo.within u 4000) = false → (0 = (0 : Int) ∧ (0 : Nat) = 0 ∧ List.take 0 (mvR u r) = ([] : List Geo.V) ∧ (0 : Nat) ≤ r.length) ∧
   (∀ x : Nat, x ≤ r.length → ((x : Int) < r.length → ix (x : Int) r.length ∧ bd 4000000000000000000 (nth r x) ∧ bd 4000000000000000000 u ∧ x = (List.take x (mvR u r)).length ∧ (List.take x (mvR u r)).length + [(Geo.mv u (nth r x))].length ≤ 1000000 ∧ in64 ((x : Int) + 1) ∧ (x : Int) + 1 = ((x + 1 : Nat) : Int) ∧ (List.take x (mvR u r) ++ [(Geo.mv u (nth r x))]).length = x + 1 ∧ List.take x (mvR u r) ++ [(Geo.mv u (nth r x))] = List.take (x + 1) (mvR u r) ∧ x + 1 ≤ r.length ∧ r.length - (x + 1) < r.length - x) ∧
    (¬ (x : Int) < r.length → x = (List.take x (mvR u r)).length ∧ (List.take x (mvR u r)).length ≤ 100000 ∧ ((!Geo.near (List.take x (mvR u r))) = true → mvL r u = ([] : List Geo.V) ∧ 2 = mvC r u) ∧
     ((!Geo.near (List.take x (mvR u r))) = false → x = (List.take x (mvR u r)).length ∧ List.take x (mvR u r) = mvL r u ∧ 0 = mvC r u)))))) (by kernel_rfl) (by
  change r.length ≤ 100000 at hp
  have c1 : (!validR r) = true → mvC r u = 11 := fun h => by unfold mvC; rw [nb' h]; rfl
  have c2 : (!validR r) = false → (!Geo.within u 4000) = true → mvC r u = 2 := fun h h2 => by unfold mvC; rw [nb h, nb' h2]; rfl
  have c3 : ∀ x : Nat, ¬ (x : Int) < r.length → x ≤ r.length → List.take x (mvR u r) = mvR u r := fun x h1 h2 => List.take_of_length_le (by rw [Geo.len_mv]; omega)
  have c4 : (!validR r) = false → (!Geo.within u 4000) = false → ∀ x : Nat, ¬ (x : Int) < r.length → x ≤ r.length → (!Geo.near (List.take x (mvR u r))) = true → mvC r u = 2 := fun h h2 x h3 h4 h5 => by
    rw [c3 x h3 h4] at h5; unfold mvC; rw [nb h, nb h2, nb' h5]; rfl
  have c5 : (!validR r) = false → (!Geo.within u 4000) = false → ∀ x : Nat, ¬ (x : Int) < r.length → x ≤ r.length → (!Geo.near (List.take x (mvR u r))) = false → mvC r u = 0 := fun h h2 x h3 h4 h5 => by
    rw [c3 x h3 h4] at h5; unfold mvC; rw [nb h, nb h2, nb h5]; rfl
  have l0 : ∀ k : Int, mvC r u = k → k ≠ 0 → mvL r u = [] := fun k h h2 => by unfold mvL; rw [if_neg (by rw [h]; exact h2)]
  have l1 : mvC r u = 0 → mvL r u = mvR u r := fun h => if_pos h
  have V : (!validR r) = false → Geo.VR r := fun h => (Geo.validP_iff r).1 (by rw [Geo.valid_eq]; exact nb h)
  have b1 : (!validR r) = false → ∀ x : Nat, (x : Int) < r.length → bd 4000000000000000000 (nth r x) := fun h x hx => bd_of (m := 10000) (vr_mem (V h) (Geo.nth_mem (show x < r.length by omega))) (by decide)
  have b2 : (!Geo.within u 4000) = false → bd 4000000000000000000 u := fun h => bd_of (m := 4000) (nb h) (by decide)
  have m : (!validR r) = false → r.length ≤ 40 := fun h => (V h).most
  have tl : ∀ x : Nat, x ≤ r.length → (List.take x (mvR u r)).length = x := fun x h => by rw [List.length_take, Geo.len_mv]; omega
  have ta : ∀ x : Nat, (x : Int) < r.length → List.take x (mvR u r) ++ [Geo.mv u (nth r x)] = List.take (x + 1) (mvR u r) := fun x h => by
    rw [List.take_succ_eq_append_getElem (by rw [Geo.len_mv]; omega), ← nth_eq (by rw [Geo.len_mv]; omega), Geo.nth_mv (by omega)]
  have tn' : ∀ x : Nat, x ≤ r.length → (List.take x (mvR u r) ++ [Geo.mv u (nth r x)]).length = x + 1 := fun x h => by rw [List.length_append, tl x h]; rfl
  clear V
  repeat' first | with_reducible apply And.intro | with_reducible intro
  all_goals first | assumption | rfl | (with_reducible exact b1 ‹_› _ ‹_›) | (with_reducible exact b2 ‹_›) | exact (tl _ ‹_›).symm | (rw [tl _ ‹_›]; omega) | (rw [tl _ ‹_›]; have := m ‹_›; simp; omega) | exact ta _ ‹_› | exact tn' _ ‹_› | exact l0 _ (c1 ‹_›) (by decide) | exact (c1 ‹_›).symm | exact l0 _ (c2 ‹_› ‹_›) (by decide) | exact (c2 ‹_› ‹_›).symm | exact l0 _ (c4 ‹_› ‹_› _ ‹_› ‹_› ‹_›) (by decide) | exact (c4 ‹_› ‹_› _ ‹_› ‹_› ‹_›).symm | exact (c5 ‹_› ‹_› _ ‹_› ‹_› ‹_›).symm | exact (c3 _ ‹_› ‹_›).trans (l1 (c5 ‹_› ‹_› _ ‹_› ‹_› ‹_›)).symm | omega | (unfold ix; omega) | (unfold in64; omega))
def t105 : Tab := tabL [(105, c105)] t40
theorem t105o : t105.Ok Tryz.prog := tabL_ok t40o ⟨k105, trivial⟩
def c38 : Con := con (ac (aL .V) (a1 aN)) (fun (r, n) => [r.length ≤ 100000, n ≤ 1000]) (fun (r, n) => .lst .V (tn n r))
theorem k38 : c38.Ok Tryz.prog 38 := con_ok (cx_ok t105o) (raw := noRaw) (fun (_, _) => []
  ) (fun (_, _) => ⟨_, rfl⟩) fun (r, n) hp => by_vc (q := Max.max (r.length : Int) 1 ≠ 0 ∧ (0 ≤ Int.tmod (n : Int) (Max.max (r.length : Int) 1) ∧ Int.tmod (n : Int) (Max.max (r.length : Int) 1) ≤ r.length) ∧ ([] : List Geo.V).length + (List.drop (Int.tmod (n : Int) (Max.max (r.length : Int) 1)).toNat r).length ≤ 1000000 ∧ (0 ≤ Int.tmod (n : Int) (Max.max (r.length : Int) 1) ∧ Int.tmod (n : Int) (Max.max (r.length : Int) 1) ≤ r.length) ∧ (([] : List Geo.V) ++ List.drop (Int.tmod (n : Int) (Max.max (r.length : Int) 1)).toNat r).length = (([] : List Geo.V) ++ List.drop (Int.tmod (n : Int) (Max.max (r.length : Int) 1)).toNat r).length ∧ (([] : List Geo.V) ++ List.drop (Int.tmod (n : Int) (Max.max (r.length : Int) 1)).toNat r).length + (List.take (Int.tmod (n : Int) (Max.max (r.length : Int) 1)).toNat r).length ≤ 1000000 ∧ (([] : List Geo.V) ++ List.drop (Int.tmod (n : Int) (Max.max (r.length : Int) 1)).toNat r ++ List.take (Int.tmod (n : Int) (Max.max (r.length : Int) 1)).toNat r).length = (([] : List Geo.V) ++ List.drop (Int.tmod (n : Int) (Max.max (r.length : Int) 1)).toNat r ++ List.take (Int.tmod (n : Int) (Max.max (r.length : Int) 1)).toNat r).length ∧ ([] : List Geo.V) ++ List.drop (Int.tmod (n : Int) (Max.max (r.length : Int) 1)).toNat r ++ List.take (Int.tmod (n : Int) (Max.max (r.length : Int) 1)).toNat r = tn n r) (by kernel_rfl) (by
  change r.length ≤ 100000 ∧ n ≤ 1000 at hp
  have e : Int.tmod (n : Int) (Max.max (r.length : Int) 1) = ((n % max r.length 1 : Nat) : Int) := by
    rw [show Max.max (r.length : Int) 1 = ((max r.length 1 : Nat) : Int) by omega]; rfl
  have l : n % max r.length 1 ≤ r.length := tn_le r n
  rw [e, Int.toNat_natCast]
  refine ⟨by omega, ⟨by omega, by omega⟩, ?_, ⟨by omega, by omega⟩, rfl, ?_, rfl, rfl⟩
  · simp; omega
  · simp; omega)
def t38 : Tab := tabL [(38, c38)] t105
theorem t38o : t38.Ok Tryz.prog := tabL_ok t105o ⟨k38, trivial⟩
def c19w : Con := conO (a1 aSh) (fun s => [Fit s]) 46 .S (fun s => dOf s) (fun s => [.int .i64 (eOf s)])
theorem k19w : c19w.Ok Tryz.prog 19 := con_okO (cx_ok t38o) (raw := noRaw) (fun s => [(6, .mk Nat (fun F _ => natAt F 21) [16] (fun k => [k ≤ (Geo.pairsP s (vOf s)).length]) (fun k => [(21, .int .i64 (k : Int)), (6, .own 16 .S k)]) (fun k => [(16, .row 46 .S (((Geo.pairsP s (vOf s)).map (Geo.segV (vOf s))).take k))]) (fun k => (Geo.pairsP s (vOf s)).length - k) (fun _ => []))]
  ) (fun _ => ⟨[_], rfl⟩) fun s hp => by_vc (q := Fit s ∧ (¬ eOf s = 0 → dOf s = ([] : List Geo.S) ∧ eOf s = eOf s) ∧
 (¬ (¬ eOf s = 0) → Fit s ∧ (vOf s).length ≤ 900 ∧ (∀ x : Geo.V, x ∈ vOf s → bd 1000000000 x) ∧ (edgesS s).length ≤ 1000000 ∧ (0 = (0 : Int) ∧ (0 : Nat) = 0 ∧ List.take 0 (List.map (Geo.segV (vOf s)) (Geo.pairsP s (vOf s))) = ([] : List Geo.S) ∧ (0 : Nat) ≤ (Geo.pairsP s (vOf s)).length) ∧
  (∀ x : Nat, x ≤ (Geo.pairsP s (vOf s)).length → ((x : Int) < (Geo.pairsP s (vOf s)).length → ix (x : Int) (Geo.pairsP s (vOf s)).length ∧ ix 0 2 ∧ ix ((nthP (Geo.pairsP s (vOf s)) x).1 : Int) (vOf s).length ∧ ix 1 2 ∧ ix ((nthP (Geo.pairsP s (vOf s)) x).2 : Int) (vOf s).length ∧ x = (List.take x (List.map (Geo.segV (vOf s)) (Geo.pairsP s (vOf s)))).length ∧ (List.take x (List.map (Geo.segV (vOf s)) (Geo.pairsP s (vOf s)))).length + [(⟨(nth (vOf s) (nthP (Geo.pairsP s (vOf s)) x).1), (nth (vOf s) (nthP (Geo.pairsP s (vOf s)) x).2)⟩ : Geo.S)].length ≤ 1000000 ∧ in64 ((x : Int) + 1) ∧ (x : Int) + 1 = ((x + 1 : Nat) : Int) ∧ (List.take x (List.map (Geo.segV (vOf s)) (Geo.pairsP s (vOf s))) ++ [(⟨(nth (vOf s) (nthP (Geo.pairsP s (vOf s)) x).1), (nth (vOf s) (nthP (Geo.pairsP s (vOf s)) x).2)⟩ : Geo.S)]).length = x + 1 ∧ List.take x (List.map (Geo.segV (vOf s)) (Geo.pairsP s (vOf s))) ++ [(⟨(nth (vOf s) (nthP (Geo.pairsP s (vOf s)) x).1), (nth (vOf s) (nthP (Geo.pairsP s (vOf s)) x).2)⟩ : Geo.S)] = List.take (x + 1) (List.map (Geo.segV (vOf s)) (Geo.pairsP s (vOf s))) ∧ x + 1 ≤ (Geo.pairsP s (vOf s)).length ∧ (Geo.pairsP s (vOf s)).length - (x + 1) < (Geo.pairsP s (vOf s)).length - x) ∧
   (¬ (x : Int) < (Geo.pairsP s (vOf s)).length → List.take x (List.map (Geo.segV (vOf s)) (Geo.pairsP s (vOf s))) = dOf s ∧ x = (List.take x (List.map (Geo.segV (vOf s)) (Geo.pairsP s (vOf s)))).length ∧ 0 = eOf s)))) (by kernel_rfl) (by
  change Fit s at hp
  have hq := Geo.validS_eq s
  have d0 : ¬ eOf s = 0 → dOf s = [] := fun h => (eOf_no h).1
  have R : ¬ ¬ eOf s = 0 → validSR s = true := fun h => eOf_yes h
  have V : ¬ ¬ eOf s = 0 → Geo.VS s := fun h => vsR (R h)
  have hvl := vOf_le s
  have hvb : ∀ x ∈ vOf s, bd 1000000000 x := fun x hx => by
    obtain ⟨i, hi, rfl⟩ := Geo.mem_nth.1 hx
    exact vOf_bd hi (by decide)
  have he : ¬ ¬ eOf s = 0 → (edgesS s).length ≤ 1000000 := fun h => by have := vs_edgesLen (V h); omega
  have dE : ¬ ¬ eOf s = 0 → (Geo.pairsP s (vOf s)).map (Geo.segV (vOf s)) = dOf s := fun h => by
    rw [dOf_yes (R h)]
    rw [vOf_yes (R h)]
    exact (Geo.diag_eq (V h) (fun x hx => (Geo.canon_verts s).subset hx) ((Geo.canon_verts s).nodup_iff.2 (V h).nodup)).1
  have pL : (Geo.pairsP s (vOf s)).length ≤ 6400 := by
    have := pairsUp_len (s := s) (v := vOf s) (vOf s).length
    have h2 : (vOf s).length * (vOf s).length ≤ 80 * 80 := Nat.mul_le_mul hvl hvl
    unfold Geo.pairsP; omega
  have pM : ∀ p ∈ Geo.pairsP s (vOf s), p.1 < p.2 ∧ p.2 < (vOf s).length := fun p hp => pairsP_mem hp
  generalize Geo.pairsP s (vOf s) = P at dE pL pM ⊢
  have pA : ∀ x : Nat, (x : Int) < P.length → (nthP P x).1 < (vOf s).length ∧ (nthP P x).2 < (vOf s).length := fun x h => by
    have h2 : nthP P x ∈ P := by rw [nthP_eq (by omega)]; exact List.getElem_mem _
    have := pM _ h2; omega
  have p1 : ∀ x : Nat, (x : Int) < P.length → ix ((nthP P x).1 : Int) (vOf s).length := fun x h => ix_nat (pA x h).1
  have p2 : ∀ x : Nat, (x : Int) < P.length → ix ((nthP P x).2 : Int) (vOf s).length := fun x h => ix_nat (pA x h).2
  have e1 : ∀ x : Nat, x ≤ P.length → (List.take x (P.map (Geo.segV (vOf s)))).length = x := fun x h => by rw [List.length_take, List.length_map]; omega
  have e2 : ∀ x : Nat, (x : Int) < P.length → List.take x (P.map (Geo.segV (vOf s))) ++ [⟨nth (vOf s) (nthP P x).1, nth (vOf s) (nthP P x).2⟩] = List.take (x + 1) (P.map (Geo.segV (vOf s))) := fun x h => by
    rw [List.take_succ_eq_append_getElem (by rw [List.length_map]; omega), List.getElem_map, nthP_eq (by omega)]; rfl
  have e3 : ¬ ¬ eOf s = 0 → ∀ x : Nat, ¬ (x : Int) < P.length → List.take x (P.map (Geo.segV (vOf s))) = dOf s := fun h x hx => by rw [List.take_of_length_le (by rw [List.length_map]; omega), dE h]
  clear pM dE pA hq
  repeat' first | with_reducible apply And.intro | with_reducible intro
  all_goals first | assumption | rfl | omega | exact d0 ‹_› | exact he ‹_› | exact hvb _ ‹_› | (unfold ix; omega) | (unfold in64; omega) | exact p1 _ ‹_› | exact p2 _ ‹_› | exact (e1 _ ‹_›).symm | (rw [e1 _ ‹_›]; simp; omega) | (rw [List.length_append, e1 _ ‹_›]; simp; done) | exact e2 _ ‹_› | exact e3 ‹_› _ ‹_› | exact (Decidable.of_not_not ‹¬ ¬ eOf s = 0›).symm)
def t19w : Tab := tabL [(19, c19w)] t38
theorem SatO.sat1 {P : Program} {f : FuncId} {A : List PV} {ty esz : Nat} {cells : List PV} {m : Nat} {y : PV} {ys : List PV} (h : SatO P f A ty esz cells m (y :: ys)) (hc : ∀ x ∈ cells, x.flat = true) (hy : (PV.tup (y :: ys)).flat = true) : Sat P true f A (.tup (.sl m cells :: y :: ys)) := by
  refine ⟨h.1, fun C w vs hC hr => (h.2.2 C w vs hC hr).mono fun e w' ⟨v, us, q, c, h1, h2, h3, h4⟩ => ?_⟩
  have hu : ∃ u us', us = u :: us' := by unfold RepL at h3; obtain ⟨u, us', e, _⟩ := h3; exact ⟨u, us', e⟩
  obtain ⟨u, us', rfl⟩ := hu
  refine ⟨_, h1, ?_, h2⟩
  unfold outO RepV
  refine ⟨v :: u :: us', rfl, ?_⟩
  have hl : RepL (fun b o x => (true = false ∧ C b o x) ∨ (w.heap.size ≤ b ∧ w'.cell? ⟨b, o, none⟩ = some x)) (y :: ys) (u :: us') := by
    have h5 : RepV (keepO C w.heap.size q w') (.tup (y :: ys)) (.tuple (u :: us').toArray) := by unfold RepV; exact ⟨_, rfl, h3⟩
    have h6 := RepV.flat (C' := fun b o x => (true = false ∧ C b o x) ∨ (w.heap.size ≤ b ∧ w'.cell? ⟨b, o, none⟩ = some x)) hy h5
    unfold RepV at h6
    obtain ⟨l, e1, h7⟩ := h6
    simp only [Value.tuple.injEq] at e1
    have e2 : l = u :: us' := by have := congrArg Array.toList e1; simpa using this.symm
    rw [← e2]; exact h7
  unfold RepL
  refine ⟨v, u :: us', rfl, ?_, hl⟩
  unfold RepV
  rcases h4 with ⟨_, rfl, rfl, rfl, _⟩ | ⟨b, arr, _, rfl, hm, hb, ha, _, _, _, hx⟩
  · exact ⟨none, 0, rfl, Nat.le_refl _, fun _ => ⟨rfl, rfl⟩, fun ad e => by cases e⟩
  · refine ⟨_, c, rfl, hm, (fun e => by cases e), fun ad e => ?_⟩
    cases e
    refine ⟨fun _ => rfl, RepC.of _ _ _ fun i x hi => ?_⟩
    obtain ⟨u2, g1, g2, g3⟩ := hx i x hi
    refine ⟨u2, .inr ⟨hb, ?_⟩, g2, RepV.flat (hc x (List.mem_of_getElem? hi)) g3⟩
    show w'.cell? ⟨b, 0 + i, none⟩ = _
    rw [Nat.zero_add]
    unfold World.cell?
    simp [ha, g1]
theorem flatS_cells (l : List Geo.S) : ∀ x ∈ LT.S.enc l, x.flat = true := fun x hx => by
  unfold LT.enc at hx
  obtain ⟨s, _, hx⟩ := List.mem_flatMap.1 hx
  simp only [LT.rowP, List.mem_cons, List.not_mem_nil, or_false] at hx
  rcases hx with rfl | rfl | rfl | rfl <;> rfl
def c19f : Con := conF true (a1 aSh) (fun s => [Fit s]) (fun s => .tup [.lst .S (dOf s), .int .i64 (eOf s)])
theorem k19f : c19f.Ok Tryz.prog 19 := by
  intro s x hd hp
  obtain ⟨A, q, h1, h2, h3⟩ := k19w s x hd hp
  have e : q = [.int .i64 (eOf (show Shape from x))] := by
    match q, (h2 : [AV.p (.int .i64 (eOf (show Shape from x)))] = q.map .p) with
    | [_], h => cases h; rfl
  subst e
  exact ⟨A, _, h1, rfl, SatO.sat1 h3 (flatS_cells _) rfl⟩
def tB : Tab := tabL [(19, c19f)] t38
theorem tBo : tB.Ok Tryz.prog := tabL_ok t38o ⟨k19f, trivial⟩
def c39 : Con := con (ac aSh (a1 aV)) (fun (s, _) => [Fit s]) (fun (s, u) => .tup [aSh.enc (msS s u), .int .i64 (msC s u)])
theorem k39 : c39.Ok Tryz.prog 39 := con_ok (cx_ok tBo) (raw := noRaw) (fun (s, u) => [lp 9 9 s.holes.length (fun _ => []) [900] (fun _ => []) (fun k => [(7, .box 26 [.lst .V (mvL s.outer u), .own 900 .R k]), (900, .row 23 .R ((s.holes.map fun h => mvL h u).take k))])]
  ) (fun (_, _) => ⟨_, rfl⟩) fun (s, u) hp => by_vc (q := Fit s ∧ ((!validSR s) = true → (msS s u).outer = ([] : List Geo.V) ∧ (msS s u).holes = ([] : List (List Geo.V)) ∧ 11 = msC s u) ∧
 ((!validSR s) = false → s.outer.length ≤ 100000 ∧ (¬ mvC s.outer u = 0 → (msS s u).outer = ([] : List Geo.V) ∧ (msS s u).holes = ([] : List (List Geo.V)) ∧ mvC s.outer u = msC s u) ∧
  (¬ (¬ mvC s.outer u = 0) → (0 = (0 : Int) ∧ mvL s.outer u = mvL s.outer u ∧ (0 : Nat) = 0 ∧ List.take 0 (List.map (fun h => mvL h u) s.holes) = ([] : List (List Geo.V)) ∧ (0 : Nat) ≤ s.holes.length) ∧
   (∀ x : Nat, x ≤ s.holes.length → ((x : Int) < s.holes.length → ix (x : Int) s.holes.length ∧ (nthR s.holes x).length ≤ 100000 ∧ x = (List.take x (List.map (fun h => mvL h u) s.holes)).length ∧ (List.take x (List.map (fun h => mvL h u) s.holes)).length + [mvL (nthR s.holes x) u].length ≤ 1000000 ∧ in64 ((x : Int) + 1) ∧ (x : Int) + 1 = ((x + 1 : Nat) : Int) ∧ mvL s.outer u = mvL s.outer u ∧ (List.take x (List.map (fun h => mvL h u) s.holes) ++ [mvL (nthR s.holes x) u]).length = x + 1 ∧ List.take x (List.map (fun h => mvL h u) s.holes) ++ [mvL (nthR s.holes x) u] = List.take (x + 1) (List.map (fun h => mvL h u) s.holes) ∧ x + 1 ≤ s.holes.length ∧ s.holes.length - (x + 1) < s.holes.length - x) ∧
    (¬ (x : Int) < s.holes.length → x = (List.take x (List.map (fun h => mvL h u) s.holes)).length ∧ mvL s.outer u = (msS s u).outer ∧ List.take x (List.map (fun h => mvL h u) s.holes) = (msS s u).holes ∧ 0 = msC s u))))) (by kernel_rfl) (by
  change Fit s at hp
  have c1 : (!validSR s) = true → msC s u = 11 := fun h => by unfold msC; rw [nb' h]; rfl
  have c2 : (!validSR s) = false → msC s u = mvC s.outer u := fun h => by unfold msC; rw [nb h]; rfl
  have o0 : ∀ k : Int, msC s u = k → k ≠ 0 → msS s u = ⟨[], []⟩ := fun k h h2 => by unfold msS; rw [if_neg (by rw [h]; exact h2)]
  have o1 : msC s u = 0 → msS s u = ⟨mvR u s.outer, s.holes.map fun h => mvL h u⟩ := fun h => if_pos h
  have a1 : (!validSR s) = true → (msS s u).outer = [] := fun h => by rw [o0 _ (c1 h) (by decide)]
  have a2 : (!validSR s) = true → (msS s u).holes = [] := fun h => by rw [o0 _ (c1 h) (by decide)]
  have a3 : (!validSR s) = false → ¬ mvC s.outer u = 0 → (msS s u).outer = [] := fun h h2 => by rw [o0 _ (c2 h) h2]
  have a4 : (!validSR s) = false → ¬ mvC s.outer u = 0 → (msS s u).holes = [] := fun h h2 => by rw [o0 _ (c2 h) h2]
  have z : (!validSR s) = false → ¬ ¬ mvC s.outer u = 0 → msC s u = 0 := fun h h2 => (c2 h).trans (Decidable.of_not_not h2)
  have a5 : (!validSR s) = false → ¬ ¬ mvC s.outer u = 0 → mvL s.outer u = (msS s u).outer := fun h h2 => by rw [o1 (z h h2)]; exact if_pos (Decidable.of_not_not h2)
  have a6 : (!validSR s) = false → ¬ ¬ mvC s.outer u = 0 → ∀ x : Nat, ¬ (x : Int) < s.holes.length → List.take x (List.map (fun h => mvL h u) s.holes) = (msS s u).holes := fun h h2 x hx => by rw [o1 (z h h2), List.take_of_length_le (by rw [List.length_map]; omega)]
  have hr : s.outer.length ≤ 100000 := by have := hp.1; omega
  have hh := hp.2.1
  have hq : ∀ x : Nat, (x : Int) < s.holes.length → (nthR s.holes x).length ≤ 100000 := fun x h => by have := hp.2.2 _ (Geo.nthR_mem (show x < s.holes.length by omega)); omega
  have tl : ∀ x : Nat, x ≤ s.holes.length → (List.take x (List.map (fun h => mvL h u) s.holes)).length = x := fun x h => by rw [List.length_take, List.length_map]; omega
  have ta : ∀ x : Nat, (x : Int) < s.holes.length → List.take x (List.map (fun h => mvL h u) s.holes) ++ [mvL (nthR s.holes x) u] = List.take (x + 1) (List.map (fun h => mvL h u) s.holes) := fun x h => by
    rw [List.take_succ_eq_append_getElem (by rw [List.length_map]; omega), List.getElem_map, nthR_eq (by omega)]
  have tn' : ∀ x : Nat, x ≤ s.holes.length → (List.take x (List.map (fun h => mvL h u) s.holes) ++ [mvL (nthR s.holes x) u]).length = x + 1 := fun x h => by rw [List.length_append, tl x h]; rfl
  repeat' first | with_reducible apply And.intro | with_reducible intro
  all_goals first | assumption | with_reducible rfl | (with_reducible exact a1 ‹_›) | (with_reducible exact a2 ‹_›) | (with_reducible exact a3 ‹_› ‹_›) | (with_reducible exact a4 ‹_› ‹_›) | (with_reducible exact a5 ‹_› ‹_›) | (with_reducible exact a6 ‹_› ‹_› _ ‹_›) | exact (c1 ‹_›).symm | exact (c2 ‹_›).symm | exact (z ‹_› ‹_›).symm | exact hq _ ‹_› | exact (tl _ ‹_›).symm | (rw [tl _ ‹_›]; simp; omega) | exact ta _ ‹_› | exact tn' _ ‹_› | omega | (unfold ix; omega) | (unfold in64; omega) | rfl)
def t39 : Tab := tabL [(39, c39)] tB
theorem t39o : t39.Ok Tryz.prog := tabL_ok tBo ⟨k39, trivial⟩
section
variable {s : Shape}
theorem begun_tn (s : Shape) (n : Nat) : Geo.Begun s (tnS s n) (fun r => n % max r.length 1) :=
  ⟨fun r => tn_le r n, rfl, List.reverse_perm _⟩
theorem fit_tn (h : Fit s) (n : Nat) : Fit (tnS s n) := by
  refine ⟨?_, ?_, fun r hr => ?_⟩
  · show (Geo.rot _ _).length ≤ 1000; rw [Geo.rot_length]; exact h.1
  · show (List.reverse _).length ≤ 900; rw [List.length_reverse, List.length_map]; exact h.2.1
  · obtain ⟨q, hq, rfl⟩ := List.mem_map.1 (List.mem_reverse.1 hr)
    show (Geo.rot _ _).length ≤ 1000; rw [Geo.rot_length]; exact h.2.2 q hq
theorem valid_tn (h : validSR s = true) (n : Nat) : validSR (tnS s n) = true := by
  rw [← Geo.validS_eq]; exact (Geo.validSP_iff _).2 ((begun_tn s n).valid (vsR h))
theorem vOf_tn (h : validSR s = true) (n : Nat) : vOf (tnS s n) = vOf s := by
  rw [vOf_yes (valid_tn h n), vOf_yes h, (begun_tn s n).canon (vsR h)]
theorem dOf_pairs (h : validSR s = true) : dOf s = (Geo.pairsP s (vOf s)).map (Geo.segV (vOf s)) := by
  rw [dOf_yes h, vOf_yes h]
  exact (Geo.diag_eq (vsR h) (fun x hx => (Geo.canon_verts s).subset hx) ((Geo.canon_verts s).nodup_iff.2 (vsR h).nodup)).1.symm
theorem dOf_tn (h : validSR s = true) (n : Nat) : dOf (tnS s n) = dOf s := by
  rw [dOf_pairs (valid_tn h n), dOf_pairs h, vOf_tn h, (begun_tn s n).pairs (vsR h)]
theorem empty_tn (h : validSR s = true) (n : Nat) (v : List Geo.V) (i j k : Nat) : Geo.emptyP (tnS s n) v i j k = Geo.emptyP s v i j k := by
  unfold Geo.emptyP; rw [(begun_tn s n).inside (vsR h)]
theorem tris_congr {t : Shape} {v : List Geo.V} {T : Geo.Tab} (h : ∀ i j k, Geo.emptyP t v i j k = Geo.emptyP s v i j k) : trisP t v T = trisP s v T := by
  have k : ∀ i j acc m, kAcc t v T i j acc m = kAcc s v T i j acc m := by
    intro i j acc m
    induction m with
    | zero => rfl
    | succ m ih => unfold kAcc stepK; rw [ih, h]
  have j : ∀ i acc m, jAcc t v T i acc m = jAcc s v T i acc m := by
    intro i acc m
    induction m with
    | zero => rfl
    | succ m ih => unfold jAcc; rw [ih, k]
  have i : ∀ m, iAcc t v T m = iAcc s v T m := by
    intro m
    induction m with
    | zero => rfl
    | succ m ih => unfold iAcc; rw [ih, j]
  exact i _
theorem tOf_tn (h : validSR s = true) (n : Nat) : tOf (tnS s n) = tOf s := by
  have e : tT (tnS s n) = tT s := by
    unfold tT Geo.joinedP
    rw [vOf_tn h, (begun_tn s n).pairs (vsR h), (begun_tn s n).canon (vsR h)]
  unfold tOf
  rw [if_pos h, if_pos (valid_tn h n), e, vOf_tn h, tris_congr (empty_tn h n _)]
theorem ms_yes (h : validSR s = true) {u : Geo.V} (hc : msC s u = 0) : msS s u = Geo.mvH u s ∧ Geo.nearS (Geo.mvH u s) ∧ Geo.within u 4000 = true := by
  have hV := vsR h
  have h1 : Geo.within u 4000 = true ∧ Geo.near (mvR u s.outer) = true := by
    unfold msC at hc; rw [if_pos h] at hc
    unfold mvC at hc
    cases e1 : validR s.outer <;> cases e2 : Geo.within u 4000 <;> cases e3 : Geo.near (mvR u s.outer) <;> rw [e1, e2, e3] at hc <;> simp at hc ⊢
  have hn := Geo.near_mv_holes hV h1.2
  refine ⟨?_, hn, h1.1⟩
  unfold msS Geo.mvH
  rw [if_pos hc]
  congr 1
  apply List.map_congr_left
  intro r hr
  unfold mvL mvC
  rw [← Geo.valid_eq, (Geo.validP_iff r).2 (hV.vp.hole r hr).1, h1.1, hn.2 _ (List.mem_map.2 ⟨r, hr, rfl⟩)]
  rfl
theorem ms_valid (h : validSR s = true) {u : Geo.V} (hc : msC s u = 0) : validSR (msS s u) = true := by
  obtain ⟨e, hn, _⟩ := ms_yes h hc
  rw [e, ← Geo.validS_eq]; exact (Geo.validSP_iff _).2 ((vsR h).mv hn)
theorem ms_fit (h : validSR s = true) (hf : Fit s) {u : Geo.V} (hc : msC s u = 0) : Fit (msS s u) := by
  rw [(ms_yes h hc).1]
  refine ⟨by show (mvR u s.outer).length ≤ 1000; rw [Geo.len_mv]; exact hf.1, by show (s.holes.map _).length ≤ 900; rw [List.length_map]; exact hf.2.1, fun r hr => ?_⟩
  obtain ⟨q, hq, rfl⟩ := List.mem_map.1 hr
  rw [Geo.len_mv]; exact hf.2.2 q hq
theorem ms_dOf (h : validSR s = true) {u : Geo.V} (hc : msC s u = 0) : dOf (msS s u) = (dOf s).map (mvE u) := by
  rw [dOf_pairs (ms_valid h hc), dOf_pairs h, vOf_yes (ms_valid h hc), vOf_yes h, (ms_yes h hc).1]
  exact Geo.diags_mv (vsR h) (ms_yes h hc).2.1
theorem dOf_bd (h : validSR s = true) {x : Nat} (hx : x < (dOf s).length) {M : Int} (hM : 2000 ≤ M := by decide) : bd M (nthS (dOf s) x).a ∧ bd M (nthS (dOf s) x).b := by
  have hm : nthS (dOf s) x ∈ (Geo.pairsP s (vOf s)).map (Geo.segV (vOf s)) := (congrArg (fun l => nthS (dOf s) x ∈ l) (dOf_pairs h)).mp (by rw [nthS_eq hx]; exact List.getElem_mem _)
  obtain ⟨p, hp, e⟩ := List.mem_map.1 hm
  have hE := (Geo.diag_eq (vsR h) (v := Geo.vertsS (Geo.canonS s)) (fun x hx => (Geo.canon_verts s).subset hx) ((Geo.canon_verts s).nodup_iff.2 (vsR h).nodup)).2
  rw [← vOf_yes h] at hE
  obtain ⟨l1, l2⟩ := hE.lt p hp
  rw [← e]
  exact ⟨vOf_bd (by omega) hM, vOf_bd l2 hM⟩
end
def c9 : Con := con (ac aSh (ac aN8 (a1 aV))) (fun (s, n, u) => [BigOk s, n < 256, VOk u]) (fun (_, _, _) => .bool true)
theorem k9 : c9.Ok Tryz.prog 9 := con_ok (cx_ok t39o) (raw := noRaw) (fun (s, n, u) => [(7, .mk Nat (fun _ L => match L.at 14 with | some (.box _ [_, .own _ _ k]) => some k | some (.box _ [_, .nil]) => some 0 | _ => none) [900] (fun k => [k ≤ s.holes.length]) (fun k => [(8, .int .i64 ((s.holes.length : Int) - 1 - k))]) (fun k => [(14, .box 26 [.lst .V (tn n s.outer), .own 900 .R k]), (900, .row 23 .R ((s.holes.map (tn n)).reverse.take k))]) (fun k => s.holes.length - k) (fun _ => [])), cnt 23 124 (dOf (msS s u)).length (fun _ => True)]
  ) (fun (_, _, _) => ⟨_, rfl⟩) fun (s, n, u) hp => by_vc (q := ((!true) = true → false = true) ∧
 ((!true) = false → BigOk s ∧ ((!(fewW s && validSR s)) = true → true = true) ∧
  ((!(fewW s && validSR s)) = false → in64 (n : Int) ∧ s.outer.length ≤ 100000 ∧ n ≤ 1000 ∧ in64 ((s.holes.length : Int) - 1) ∧ ((s.holes.length : Int) - 1 = s.holes.length - 1 - 0 ∧ tn n s.outer = tn n s.outer ∧ (0 : Nat) = 0 ∧ List.take 0 (List.reverse (List.map (tn n) s.holes)) = ([] : List (List Geo.V)) ∧ (0 : Nat) ≤ s.holes.length) ∧
   (∀ x : Nat, x ≤ s.holes.length → (0 ≤ (s.holes.length : Int) - 1 - x → ix ((s.holes.length : Int) - 1 - x) s.holes.length ∧ in64 (n : Int) ∧ (nthR s.holes ((s.holes.length : Int) - 1 - x).toNat).length ≤ 100000 ∧ n ≤ 1000 ∧ x = (List.take x (List.reverse (List.map (tn n) s.holes))).length ∧ (List.take x (List.reverse (List.map (tn n) s.holes))).length + [tn n (nthR s.holes ((s.holes.length : Int) - 1 - x).toNat)].length ≤ 1000000 ∧ in64 ((s.holes.length : Int) - 1 - x - 1) ∧ (s.holes.length : Int) - 1 - x - 1 = s.holes.length - 1 - (List.take x (List.reverse (List.map (tn n) s.holes)) ++ [tn n (nthR s.holes ((s.holes.length : Int) - 1 - x).toNat)]).length ∧ tn n s.outer = tn n s.outer ∧ (List.take x (List.reverse (List.map (tn n) s.holes)) ++ [tn n (nthR s.holes ((s.holes.length : Int) - 1 - x).toNat)]).length = (List.take x (List.reverse (List.map (tn n) s.holes)) ++ [tn n (nthR s.holes ((s.holes.length : Int) - 1 - x).toNat)]).length ∧ List.take x (List.reverse (List.map (tn n) s.holes)) ++ [tn n (nthR s.holes ((s.holes.length : Int) - 1 - x).toNat)] = List.take (List.take x (List.reverse (List.map (tn n) s.holes)) ++ [tn n (nthR s.holes ((s.holes.length : Int) - 1 - x).toNat)]).length (List.reverse (List.map (tn n) s.holes)) ∧ (List.take x (List.reverse (List.map (tn n) s.holes)) ++ [tn n (nthR s.holes ((s.holes.length : Int) - 1 - x).toNat)]).length ≤ s.holes.length ∧ s.holes.length - (List.take x (List.reverse (List.map (tn n) s.holes)) ++ [tn n (nthR s.holes ((s.holes.length : Int) - 1 - x).toNat)]).length < s.holes.length - x) ∧
    (¬ 0 ≤ (s.holes.length : Int) - 1 - x → Fit s ∧ x = (List.take x (List.reverse (List.map (tn n) s.holes))).length ∧ Fit (⟨tn n s.outer, List.take x (List.reverse (List.map (tn n) s.holes))⟩ : Shape) ∧ Fit s ∧ x = (List.take x (List.reverse (List.map (tn n) s.holes))).length ∧ Fit (⟨tn n s.outer, List.take x (List.reverse (List.map (tn n) s.holes))⟩ : Shape) ∧ (¬ eOf s = 0 → false = true) ∧
     (¬ (¬ eOf s = 0) → (¬ eOf (⟨tn n s.outer, List.take x (List.reverse (List.map (tn n) s.holes))⟩ : Shape) = 0 → false = true) ∧
      (¬ (¬ eOf (⟨tn n s.outer, List.take x (List.reverse (List.map (tn n) s.holes))⟩ : Shape) = 0) → (¬ eOf s = 0 → false = true) ∧
       (¬ (¬ eOf s = 0) → (¬ eOf (⟨tn n s.outer, List.take x (List.reverse (List.map (tn n) s.holes))⟩ : Shape) = 0 → false = true) ∧
        (¬ (¬ eOf (⟨tn n s.outer, List.take x (List.reverse (List.map (tn n) s.holes))⟩ : Shape) = 0) → (dOf s).length ≤ 1000000 ∧ ((!dOf s == dOf (⟨tn n s.outer, List.take x (List.reverse (List.map (tn n) s.holes))⟩ : Shape)) = true → false = true) ∧
         ((!dOf s == dOf (⟨tn n s.outer, List.take x (List.reverse (List.map (tn n) s.holes))⟩ : Shape)) = false → (tOf s).length ≤ 1000000 ∧ (∀ r : Ring, r ∈ tOf s → r.length ≤ 100000) ∧ ((!tOf s == tOf (⟨tn n s.outer, List.take x (List.reverse (List.map (tn n) s.holes))⟩ : Shape)) = true → false = true) ∧
          ((!tOf s == tOf (⟨tn n s.outer, List.take x (List.reverse (List.map (tn n) s.holes))⟩ : Shape)) = false → Fit s ∧ (¬ msC s u = 0 → true = true) ∧
           (¬ (¬ msC s u = 0) → Fit (msS s u) ∧ (¬ eOf (msS s u) = 0 → false = true) ∧
            (¬ (¬ eOf (msS s u) = 0) → (¬ ((dOf (msS s u)).length : Int) = (dOf s).length → false = true) ∧
             (¬ (¬ ((dOf (msS s u)).length : Int) = (dOf s).length) → (0 = (0 : Int) ∧ (0 : Nat) ≤ (dOf (msS s u)).length ∧ True) ∧
              (∀ x_1 : Nat, x_1 ≤ (dOf (msS s u)).length ∧ True → ((x_1 : Int) < (dOf (msS s u)).length → ix (x_1 : Int) (dOf (msS s u)).length ∧ ix (x_1 : Int) (dOf s).length ∧ bd 4000000000000000000 (nthS (dOf s) x_1).a ∧ bd 4000000000000000000 u ∧ (¬ (nthS (dOf (msS s u)) x_1).a = (Geo.mv u (nthS (dOf s) x_1).a) → false = true) ∧
                (¬ (¬ (nthS (dOf (msS s u)) x_1).a = (Geo.mv u (nthS (dOf s) x_1).a)) → ix (x_1 : Int) (dOf (msS s u)).length ∧ ix (x_1 : Int) (dOf s).length ∧ bd 4000000000000000000 (nthS (dOf s) x_1).b ∧ bd 4000000000000000000 u ∧ (¬ (nthS (dOf (msS s u)) x_1).b = (Geo.mv u (nthS (dOf s) x_1).b) → false = true) ∧
                 (¬ (¬ (nthS (dOf (msS s u)) x_1).b = (Geo.mv u (nthS (dOf s) x_1).b)) → in64 ((x_1 : Int) + 1) ∧ (x_1 : Int) + 1 = ((x_1 + 1 : Nat) : Int) ∧ x_1 + 1 ≤ (dOf (msS s u)).length ∧ True ∧ (dOf (msS s u)).length - (x_1 + 1) < (dOf (msS s u)).length - x_1))) ∧
               (¬ (x_1 : Int) < (dOf (msS s u)).length → true = true)))))))))))))))) (by kernel_rfl) (by
  change BigOk s ∧ n < 256 ∧ VOk u at hp
  obtain ⟨hb, hn, hu⟩ := hp
  have hf : (!(fewW s && validSR s)) = false → Fit s := fun h => fewW_fit hb (by have := nb h; simp only [Bool.and_eq_true] at this; exact this.1)
  have R : (!(fewW s && validSR s)) = false → validSR s = true := fun h => by have := nb h; simp only [Bool.and_eq_true] at this; exact this.2
  have e0 : (!(fewW s && validSR s)) = false → ¬ ¬ eOf s = 0 := fun h h2 => h2 (by unfold eOf; rw [R h]; rfl)
  have eT : ∀ x : Nat, ¬ 0 ≤ (s.holes.length : Int) - 1 - x → (⟨tn n s.outer, List.take x (List.reverse (List.map (tn n) s.holes))⟩ : Shape) = tnS s n := fun x h => by
    unfold tnS; rw [List.take_of_length_le (by rw [List.length_reverse, List.length_map]; omega)]
  have fT : (!(fewW s && validSR s)) = false → ∀ x : Nat, ¬ 0 ≤ (s.holes.length : Int) - 1 - x → Fit (⟨tn n s.outer, List.take x (List.reverse (List.map (tn n) s.holes))⟩ : Shape) := fun h x hx => by rw [eT x hx]; exact fit_tn (hf h) n
  have e1 : (!(fewW s && validSR s)) = false → ∀ x : Nat, ¬ 0 ≤ (s.holes.length : Int) - 1 - x → ¬ ¬ eOf (⟨tn n s.outer, List.take x (List.reverse (List.map (tn n) s.holes))⟩ : Shape) = 0 := fun h x hx h2 => h2 (by rw [eT x hx]; unfold eOf; rw [valid_tn (R h) n]; rfl)
  have d1 : (!(fewW s && validSR s)) = false → ∀ x : Nat, ¬ 0 ≤ (s.holes.length : Int) - 1 - x → ¬ (!dOf s == dOf (⟨tn n s.outer, List.take x (List.reverse (List.map (tn n) s.holes))⟩ : Shape)) = true := fun h x hx => by rw [eT x hx, dOf_tn (R h) n]; simp
  have t1 : (!(fewW s && validSR s)) = false → ∀ x : Nat, ¬ 0 ≤ (s.holes.length : Int) - 1 - x → ¬ (!tOf s == tOf (⟨tn n s.outer, List.take x (List.reverse (List.map (tn n) s.holes))⟩ : Shape)) = true := fun h x hx => by rw [eT x hx, tOf_tn (R h) n]; simp
  have o6 : (!(fewW s && validSR s)) = false → s.outer.length ≤ 100000 := fun h => by have := (hf h).1; omega
  have hh : (!(fewW s && validSR s)) = false → s.holes.length ≤ 900 := fun h => (hf h).2.1
  have hq : (!(fewW s && validSR s)) = false → ∀ x : Nat, 0 ≤ (s.holes.length : Int) - 1 - x → (nthR s.holes ((s.holes.length : Int) - 1 - x).toNat).length ≤ 100000 := fun h x hx => by have := (hf h).2.2 _ (Geo.nthR_mem (show ((s.holes.length : Int) - 1 - x).toNat < s.holes.length by omega)); omega
  have tl : ∀ x : Nat, x ≤ s.holes.length → (List.take x (List.reverse (List.map (tn n) s.holes))).length = x := fun x h => by rw [List.length_take, List.length_reverse, List.length_map]; omega
  have tn' : ∀ (x : Nat) (q : Ring), x ≤ s.holes.length → (List.take x (List.reverse (List.map (tn n) s.holes)) ++ [q]).length = x + 1 := fun x q h => by rw [List.length_append, tl x h]; rfl
  have ta : ∀ x : Nat, x ≤ s.holes.length → 0 ≤ (s.holes.length : Int) - 1 - x → List.take x (List.reverse (List.map (tn n) s.holes)) ++ [tn n (nthR s.holes ((s.holes.length : Int) - 1 - x).toNat)] = List.take (List.take x (List.reverse (List.map (tn n) s.holes)) ++ [tn n (nthR s.holes ((s.holes.length : Int) - 1 - x).toNat)]).length (List.reverse (List.map (tn n) s.holes)) := fun x h0 h => by
    rw [tn' x _ h0, List.take_succ_eq_append_getElem (by rw [List.length_reverse, List.length_map]; omega), List.getElem_reverse, List.getElem_map, nthR_eq (by omega)]
    congr 3
    first | omega | (simp; omega) | simp
  have td := dOf_len s
  have tt := tOf_len s
  have tr := tOf_low s
  have mF : (!(fewW s && validSR s)) = false → ¬ ¬ msC s u = 0 → Fit (msS s u) := fun h h2 => ms_fit (R h) (hf h) (Decidable.of_not_not h2)
  have mE : (!(fewW s && validSR s)) = false → ¬ ¬ msC s u = 0 → ¬ ¬ eOf (msS s u) = 0 := fun h h2 h3 => h3 (by unfold eOf; rw [ms_valid (R h) (Decidable.of_not_not h2)]; rfl)
  have mD : (!(fewW s && validSR s)) = false → ¬ ¬ msC s u = 0 → dOf (msS s u) = (dOf s).map (mvE u) := fun h h2 => ms_dOf (R h) (Decidable.of_not_not h2)
  have mL : (!(fewW s && validSR s)) = false → ¬ ¬ msC s u = 0 → (dOf (msS s u)).length = (dOf s).length := fun h h2 => by rw [mD h h2, List.length_map]
  have mL2 : (!(fewW s && validSR s)) = false → ¬ ¬ msC s u = 0 → ¬ ¬ ((dOf (msS s u)).length : Int) = (dOf s).length := fun h h2 h3 => h3 (by rw [mL h h2])
  have mX : (!(fewW s && validSR s)) = false → ¬ ¬ msC s u = 0 → ∀ x : Nat, (x : Int) < (dOf (msS s u)).length → (x : Int) < (dOf s).length ∧ nthS (dOf (msS s u)) x = mvE u (nthS (dOf s) x) := fun h h2 x hx => by
    have hl := mL h h2
    refine ⟨by omega, ?_⟩
    rw [nthS_eq (by omega), nthS_eq (by omega)]
    simp only [mD h h2, List.getElem_map]
  have mA : (!(fewW s && validSR s)) = false → ¬ ¬ msC s u = 0 → ∀ x : Nat, (x : Int) < (dOf (msS s u)).length → ¬ ¬ (nthS (dOf (msS s u)) x).a = Geo.mv u (nthS (dOf s) x).a := fun h h2 x hx h3 => h3 (by rw [(mX h h2 x hx).2]; rfl)
  have mB : (!(fewW s && validSR s)) = false → ¬ ¬ msC s u = 0 → ∀ x : Nat, (x : Int) < (dOf (msS s u)).length → ¬ ¬ (nthS (dOf (msS s u)) x).b = Geo.mv u (nthS (dOf s) x).b := fun h h2 x hx h3 => h3 (by rw [(mX h h2 x hx).2]; rfl)
  have mI : (!(fewW s && validSR s)) = false → ¬ ¬ msC s u = 0 → ∀ x : Nat, (x : Int) < (dOf (msS s u)).length → ix (x : Int) (dOf s).length := fun h h2 x hx => by have := (mX h h2 x hx).1; unfold ix; omega
  have mb : (!(fewW s && validSR s)) = false → ¬ ¬ msC s u = 0 → ∀ x : Nat, (x : Int) < (dOf (msS s u)).length → bd 4000000000000000000 (nthS (dOf s) x).a ∧ bd 4000000000000000000 (nthS (dOf s) x).b := fun h h2 x hx => dOf_bd (R h) (by have := (mX h h2 x hx).1; omega)
  have mu : (!(fewW s && validSR s)) = false → ¬ ¬ msC s u = 0 → bd 4000000000000000000 u := fun h h2 => bd_of (m := 4000) (ms_yes (R h) (Decidable.of_not_not h2)).2.2 (by decide)
  have ml : (!(fewW s && validSR s)) = false → ¬ ¬ msC s u = 0 → (dOf (msS s u)).length ≤ 6400 := fun h h2 => by have := mL h h2; omega
  clear R mD mX mL eT
  repeat' first | with_reducible apply And.intro | with_reducible intro
  all_goals repeat with_reducible cases ‹_ ∧ True›
  all_goals first | assumption | with_reducible rfl | (with_reducible exact hf ‹_›) | (with_reducible exact o6 ‹_›) | (with_reducible exact fT ‹_› _ ‹_›) | exact absurd ‹_› (e0 ‹_›) | (with_reducible exact absurd ‹_› (e1 ‹_› _ ‹_›)) | (with_reducible exact absurd ‹_› (d1 ‹_› _ ‹_›)) | (with_reducible exact absurd ‹_› (t1 ‹_› _ ‹_›)) | (with_reducible exact hq ‹_› _ ‹_›) | (with_reducible exact (tl _ ‹_›).symm) | (with_reducible exact ta _ ‹_› ‹_›) | (with_reducible exact tr _ ‹_›) | (with_reducible exact mF ‹_› ‹_›) | (with_reducible exact absurd ‹_› (mE ‹_› ‹_›)) | (with_reducible exact absurd ‹_› (mL2 ‹_› ‹_›)) | (with_reducible exact absurd ‹_› (mA ‹_› ‹_› _ ‹_›)) | (with_reducible exact absurd ‹_› (mB ‹_› ‹_› _ ‹_›)) | (with_reducible exact mI ‹_› ‹_› _ ‹_›) | (with_reducible exact (mb ‹_› ‹_› _ ‹_›).1) | (with_reducible exact (mb ‹_› ‹_› _ ‹_›).2) | (with_reducible exact mu ‹_› ‹_›) | omega | (unfold ix; omega) | (rw [tl _ ‹_›]; have := hh ‹_›; simp; omega) | (rw [tn' _ _ ‹_›]; omega) | (have := hh ‹_›; exact i64w (by omega)) | (have := ml ‹_› ‹_›; exact i64w (by omega)) | (exact i64w (by omega)) | rfl | trivial)
def t9 : Tab := tabL [(9, c9)] t39
end
end Go.Proofs.YtdaeofhdgabhjaaGreat
namespace Go.Proofs.YtdaeofhdgabhjaaGreat
open Go.ChangeShapes Go.WideShapes Go.ChangeAt Go.RowKit Go.Joins Go.Deep
theorem law_begins (s : Geo.Shape) (n : Nat) (v : Geo.V) (hs : BigOk s) (hn : n < 256) (hv : VOk v) : Sat Tryz.prog false 9 [shapeP s, .int .u8 (n : Int), vecP v] (.bool true) :=
  sat_of (k9 [aSh.enc s, aN8.enc n, aV.enc v] (s, n, v) rfl ((andL_iff (l := c9.pre (s, n, v))).1 ⟨hs, hn, hv⟩)) (by simp only [avs, av_sh, av_vec]; rfl) rfl
set_option maxRecDepth 100000 in
theorem begins_lifted (os : Os) (started : os.Started) (H : Type) (enc : TypeId × Value → H) :
    ReturnsInHanded {} Tryz.checked os 9 .any (Rows.triangleBeginsSpec.pre6 enc Tryz.prog Tryz.f9 Rows.triangleBeginsRow.domain false) (Rows.triangleBeginsSpec.post enc Tryz.prog Tryz.f9 false true false false) := by
  refine returnsInHanded_of_change_sized (C := Tryz.checked) Tryz.own started (by kernel_rfl) Tryz.func9
    (ChangeSpec.witness6 (enc := enc) (C := Tryz.checked) false ⟨#[], #[(.agg #[.slice none 0 0, .slice none 0 0]), (.int .u8 0), (.agg #[.int .i64 0, .int .i64 0])], []⟩ 8 (by kernel_rfl) (by kernel_rfl) (by kernel_rfl) (by kernel_rfl)) ?_
  intro W base args ds gs before hval0 hW hcnd hsz0 _
  have hval : ∀ (j : Nat) t v, Tryz.f9.params[j]? = some t → args[j]? = some v → Value.okWide Tryz.prog W .any base t v := hval0
  have hsz : (DataW.weightsEach Tryz.prog (Tryz.f9.params.toList ++ Rows.triangleBeginsSpec.plain.varTypes Tryz.prog) (ds ++ gs)).all (· ≤ reachBytes) = true := hsz0
  have hW' := hW
  obtain ⟨p, q, hA0, hV, rfl, hfz, hnd⟩ := hW
  have hA : DataW.TrodAll enc Tryz.prog W 0 (fun _ => true) true Tryz.f9.params.toList args.toList ds p := hA0
  rw [Tryz.params9] at hA hval hsz
  obtain ⟨v0, v1, v2, d0, d1, d2, p0, p1, p2, rfl, rfl, rfl, h0, h1, h2⟩ := trodAll_three hA
  obtain ⟨rfl, rfl⟩ := trodVars_none hV
  have hw0 : ∀ n ∈ DataW.weights Tryz.prog 26 d0, n ≤ reachBytes := fun n hn => by
    have := List.all_eq_true.1 hsz n (DataW.weights_mem_each (j := 0) (t := 26) rfl rfl n hn)
    simpa using this
  obtain ⟨s, r0, b0⟩ := open_shape (hval 0 26 v0 rfl rfl) h0 hw0
  obtain ⟨n, r1, b1⟩ := open_u8 (hval 1 5 v1 rfl rfl) h1
  obtain ⟨v, r2, b2⟩ := open_vec (hval 2 44 v2 rfl rfl) h2
  clear hA0 hval0
  simp only [List.append_nil] at hW'
  have hcall := (law_begins s n v b0 b1 b2).2 (cellW W) W [v0, v1, v2] (fun _ _ _ h => h) (by unfold RepL; exact ⟨v0, [v1, v2], rfl, r0, by unfold RepL; exact ⟨v1, [v2], rfl, r1, by unfold RepL; exact ⟨v2, [], rfl, r2, by unfold RepL; rfl⟩⟩⟩)
  refine hcall.mono fun e W' ⟨v, he, hr, hB⟩ => ?_
  unfold RepV at hr
  subst he hr
  have hlt0 : ∀ x ∈ p0, x.block < W.heap.size := fun x hx => by simpa using hW'.lt x (by simp [hx])
  have hlt1 : ∀ x ∈ p1, x.block < W.heap.size := fun x hx => by simpa using hW'.lt x (by simp [hx])
  have hlt2 : ∀ x ∈ p2, x.block < W.heap.size := fun x hx => by simpa using hW'.lt x (by simp [hx])
  refine ⟨_, rfl, _, _, _, [], (p0 ++ (p1 ++ p2)), [], hW', ?_, ?_, rfl, hB.frame _, fun h => by cases h⟩
  · exact trodAll_mk1 (shut_bool Tryz.underlying4 true)
  · exact trodAll_mk3 (Below.trod Tryz.laidOut (by kernel_rfl) (of_decide_eq_true (by kernel_rfl)) h0 hB hlt0) (Below.trod Tryz.laidOut (by kernel_rfl) (of_decide_eq_true (by kernel_rfl)) h1 hB hlt1) (Below.trod Tryz.laidOut (by kernel_rfl) (of_decide_eq_true (by kernel_rfl)) h2 hB hlt2)
theorem begins_holds : Rows.TriangleBeginsSaid :=
  OpenClaim.holds_of_wide 9 Tryz.f9 rfl rfl rfl rfl rfl rfl rfl ⟨rfl, rfl, rfl, rfl, rfl⟩ rfl rfl rfl rfl rfl (by kernel_rfl) Tryz.func9 (by kernel_rfl)
    (of_decide_eq_true (by kernel_rfl)) (by unfold Func.isWrapper; first | (rw [if_pos (by decide +kernel)]; kernel_rfl) | (rw [if_neg (by decide +kernel)]; exact ⟨rfl, rfl⟩))
    (fun os started H enc _ => begins_lifted os started H enc)
end Go.Proofs.YtdaeofhdgabhjaaGreat
