/- What a slice of digits reads as, and how it is carried over. -/
import Derived.Test.YtpjjbdpkhmeldaaDoorRows
import Derived.Test.YtpjjbdpkhmeldaaDoorP0
import Derived.WalkKit
import Derived.WalkSpells
import Derived.WalkLawsBesides
import Derived.Lib.Hide
import Derived.Deep.QuietTactic
import Derived.BigQuiet
import Derived.WalkSmall
import Derived.Laws.CopyOwn
namespace Go.Proofs.YtpjjbdpkhmeldaaDoor
open Go.RowKit

/-- the length of a slice value -/
def slen : Value → Nat
  | .slice _ n _ => n
  | _ => 0

/-- the slice with address a reads as the numbers ds -/
def RdN (w : World) (k : IntKind) (a : Option Addr) (ds : List Nat) : Prop :=
  ∀ i (h : i < ds.length), ∃ b off, a = some ⟨b, off, none⟩ ∧ b < w.heap.size ∧ w.cell? ⟨b, off + i, none⟩ = some (.int k (ds[i] : Int))

/-- the value is a slice that reads as the digits of n -/
def NatV (w : World) (k : IntKind) (B : Nat) (v : Value) (n : Nat) : Prop :=
  ∃ a cap, v = .slice a (digs B n).length cap ∧ (digs B n).length ≤ cap ∧ RdN w k a (digs B n)

theorem RdN.below {w w' : World} {k : IntKind} {a : Option Addr} {ds : List Nat} (h : RdN w k a ds) (hb : Below w.heap.size w w') : RdN w' k a ds := by
  intro i hi
  obtain ⟨b, off, ha, hlt, hc⟩ := h i hi
  exact ⟨b, off, ha, Nat.lt_of_lt_of_le hlt hb.size, (hb.cell hlt).trans hc⟩

theorem NatV.below {w w' : World} {k : IntKind} {B : Nat} {v : Value} {n : Nat} (h : NatV w k B v n) (hb : Below w.heap.size w w') : NatV w' k B v n := by
  obtain ⟨a, cap, hv, hc, hr⟩ := h
  exact ⟨a, cap, hv, hc, hr.below hb⟩

theorem RdN.take {w : World} {k : IntKind} {a : Option Addr} {ds : List Nat} (h : RdN w k a ds) (n : Nat) : RdN w k a (ds.take n) := by
  intro i hi
  have hi' : i < ds.length := by rw [List.length_take] at hi; omega
  obtain ⟨b, off, ha, hlt, hc⟩ := h i hi'
  exact ⟨b, off, ha, hlt, by rw [List.getElem_take]; exact hc⟩

/-- block b of the world is a row of the numbers ds of the kind k -/
def Blk (w : World) (b : Nat) (T : TypeId) (k : IntKind) (ds : List Nat) : Prop :=
  w.heap[b]? = some (.cells (ds.map fun (d : Nat) => Value.int k (d : Int)).toArray T (0, 0))

theorem Blk.lt {w : World} {b : Nat} {T : TypeId} {k : IntKind} {ds : List Nat} (h : Blk w b T k ds) : b < w.heap.size := by
  unfold Blk at h
  exact (Array.getElem?_eq_some_iff.1 h).1

theorem Blk.cell {w : World} {b : Nat} {T : TypeId} {k : IntKind} {ds : List Nat} (h : Blk w b T k ds) (i : Nat) (hi : i < ds.length) :
    w.cell? ⟨b, i, none⟩ = some (.int k (ds[i] : Int)) := by
  unfold Blk at h
  simp [World.cell?, h, hi]

theorem Blk.free {w : World} {b : Nat} {T : TypeId} {k : IntKind} {ds : List Nat} (h : Blk w b T k ds) (i : Nat) : w.frozen? ⟨b, i, none⟩ = false := by
  unfold Blk at h
  simp [World.frozen?, h]

theorem Blk.set {w : World} {b : Nat} {T : TypeId} {k : IntKind} {ds : List Nat} (h : Blk w b T k ds) (i d : Nat) :
    Blk (w.setCell ⟨b, i, none⟩ (.int k (d : Int))) b T k (ds.set i d) := by
  unfold Blk at h ⊢
  simp [World.setCell, Array.getElem?_modify, h, List.map_set]

theorem Blk.rd {w : World} {b : Nat} {T : TypeId} {k : IntKind} {ds : List Nat} (h : Blk w b T k ds) : RdN w k (some ⟨b, 0, none⟩) ds :=
  fun i hi => ⟨b, 0, rfl, h.lt, by rw [Nat.zero_add]; exact h.cell i hi⟩

theorem Blk.below {w w' : World} {b : Nat} {T : TypeId} {k : IntKind} {ds : List Nat} (h : Blk w b T k ds) (hb : Below w.heap.size w w') : Blk w' b T k ds := by
  have := h.lt
  unfold Blk at h ⊢
  rw [hb.block b this]; exact h

theorem Blk.other {w : World} {b c : Nat} {T : TypeId} {k : IntKind} {ds : List Nat} (h : Blk w b T k ds) (hbc : b ≠ c) (i : Nat) (v : Value) :
    Blk (w.setCell ⟨c, i, none⟩ v) b T k ds := by
  unfold Blk at h ⊢
  rw [Below.heap_setCell _ _ _ _ hbc]; exact h

/-- what make leaves: a row of noughts -/
theorem Blk.made (w : World) (T : TypeId) (k : IntKind) (n : Nat) : Blk (w.alloc (.cells (madeCells (Value.int k 0).cells n) T)) w.heap.size T k (List.replicate n 0) := by
  unfold Blk
  rw [heap_alloc_new]
  congr 2
  apply Array.ext
  · simp [madeCells]
  · intro i h1 h2
    simp [madeCells, Value.cells, Nat.mod_one]

/-- 'make([]T, n)' of an integer type. -/
theorem wpList_make_row {P : Program} (w : World) {ops : Array Oper} {rest : List Oper} {o : Oper} {a : Act} {Q : Exit → Act → World → Prop}
    (hg : o.guard = none) (l c : Operand) (t : TypeId) (hop : o.op = Op.makeSlice t l c)
    (e : TypeId) (k : IntKind) (bytes : Nat) (h1 : P.underlying t = some (.slice e)) (h2 : (P.info? e).map (fun i => (i.zero, i.size, i.bytes)) = some (some (.int k 0), 1, bytes))
    (kl kc : IntKind) (L C : Int) (n : Nat) (hl : a.eval l = .int kl L) (hc : a.eval c = .int kc C) (hL : L = (n : Int)) (hC : C = (n : Int)) (b2 : bytes * n ≤ 281474976710656) (b3 : n ≤ 9223372036854775807)
    (hK : ∀ w', Blk w' w.heap.size e k (List.replicate n 0) → Below w.heap.size w w' → w'.heap.size = w.heap.size + 1 → wpList P ops Q rest (a.put o.dst (.slice (some ⟨w.heap.size, 0, none⟩) n n)) w') :
    wpList P ops Q (o :: rest) a w := by
  obtain ⟨i, hi, hz0, hz1, hz2⟩ := info_parts h2
  refine wpList_plain hg fun K hK' => ?_
  subst hL hC
  have hb' : (i.bytes : Int) * (n : Int) ≤ 281474976710656 := by
    have h : ((i.bytes * n : Nat) : Int) ≤ 281474976710656 := by rw [hz2]; omega
    rwa [Int.natCast_mul] at h
  have hrun := run_make (P := P) w t e i _ h1 hi hz0 kl kc n n (by omega) (Int.le_refl _) hb' (by omega)
  simp only [Int.toNat_natCast, hz1, Nat.mul_one] at hrun
  unfold Oper.wp
  simp [execOp, hop, hl, hc, hrun, Result.andThen]
  exact hK' _ _ (hK _ (Blk.made w e k n) ((Below.refl _ _).alloc (Nat.le_refl _) _) (by simp))

theorem Blk.lit (w : World) (T : TypeId) (k : IntKind) (cs : Array Value) (ds : List Nat) (h : cs = (ds.map fun (d : Nat) => Value.int k (d : Int)).toArray) : Blk (w.alloc (.cells cs T)) w.heap.size T k ds := by
  unfold Blk
  rw [heap_alloc_new, h]

/-- 'copy(dst, src)' into a row of the call's own, from its head on. -/
theorem wpList_copy_row {P : Program} {w : World} {ops : Array Oper} {rest : List Oper} {o : Oper} {a : Act} {Q : Exit → Act → World → Prop} (hgd : o.guard = none) (d s : Operand) (dT sT : TypeId)
    (ho : o.op = .call { callee := .builtin .copy, args := #[d, s], argTypes := #[dT, sT] }) (elem : TypeId) (hu : P.underlying dT = some (.slice elem)) (hsz : (P.info? elem).map (·.size) = some 1)
    (g dLen dCap sLen sCap : Nat) (sp : Option Addr) (hd : a.eval d = .slice (some ⟨g, 0, none⟩) dLen dCap) (hs : a.eval s = .slice sp sLen sCap) (T : TypeId) (k : IntKind) (row ys : List Nat) (hdl : row.length = dLen) (hsl : ys.length = sLen)
    (hb : Blk w g T k row) (hr : RdN w k sp ys) (hl : ys.length ≤ row.length)
    (h : ∀ w', Blk w' g T k (ys ++ row.drop ys.length) → Below g w w' → wpList P ops Q rest (a.put o.dst (goInt ys.length)) w') : wpList P ops Q (o :: rest) a w := by
  have hl' : (ys.map fun (d : Nat) => Value.int k (d : Int)).length = ys.length := by simp
  subst hdl hsl
  refine wpList_copy_splice hgd d s dT sT ho elem hu hsz _ _ _ _ _ _ hd hs g 0 (row.map fun (d : Nat) => Value.int k (d : Int)) T hb (ys.map fun (d : Nat) => Value.int k (d : Int)) ?_ ?_ ?_ ?_ g w (Below.refl _ _) (Nat.le_refl _) ?_
  · rw [hl']; exact (Nat.min_eq_left hl).symm
  · intro hp
    refine ⟨rfl, ?_⟩
    rw [hl'] at hp
    obtain ⟨b, off, rfl, _, _⟩ := hr 0 hp
    refine ⟨_, rfl, ?_⟩
    intro j v hj
    have hj' : j < ys.length := by
      have := (List.getElem?_eq_some_iff.1 hj).1; simpa using this
    obtain ⟨b', off', hbo, _, hc⟩ := hr j hj'
    simp only [Option.some.injEq, Addr.mk.injEq, and_true] at hbo
    obtain ⟨rfl, rfl⟩ := hbo
    have e : (ys.map fun (d : Nat) => Value.int k (d : Int))[j]? = some (.int k (ys[j] : Int)) := by simp [hj']
    rw [e] at hj
    cases hj
    rw [← hc]
    by_cases h0 : j = 0
    · subst h0; simp [Addr.add]
    · simp [Addr.add, h0]
  · simp; omega
  · intro v hv
    simp at hv
    obtain ⟨_, _, rfl⟩ := hv
    rfl
  · intro w' hH hB
    rw [hl']
    refine h w' ?_ hB
    have := hH.out
    unfold Blk
    rw [this]
    simp [splice]

end Go.Proofs.YtpjjbdpkhmeldaaDoor
