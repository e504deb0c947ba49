/- contract of the reference's Parse -/
import Derived.Test.YtpjjbdpkhmeldaaDoorT6
namespace Go.Proofs.YtpjjbdpkhmeldaaDoor
open Go.RowKit

theorem extract_mid (s : ByteArray) (a b : Nat) : (s.extract a b).data.toList = (s.data.toList.take b).drop a := by
  rw [ByteArray.data_extract, Array.toList_extract, List.extract_eq_take_drop, List.drop_take]

def ffrom (l : List UInt8) (j : Nat) : Nat := j + ((l.drop j).takeWhile (· != 47)).length
theorem ffrom_end (l : List UInt8) : ffrom l l.length = l.length := by unfold ffrom; rw [List.drop_length]; rfl
theorem ffrom_hit (l : List UInt8) (i : Nat) (h : i < l.length) (h1 : l[i] = 47) : ffrom l i = i := by
  unfold ffrom
  rw [List.drop_eq_getElem_cons h, h1, List.takeWhile_cons]
  rfl
theorem ffrom_miss (l : List UInt8) (i : Nat) (h : i < l.length) (h1 : l[i] ≠ 47) : ffrom l i = ffrom l (i + 1) := by
  unfold ffrom
  have hb : (l[i] != 47) = true := bne_iff_ne.2 h1
  rw [List.drop_eq_getElem_cons h, List.takeWhile_cons, hb]
  simp
  omega

def frP (l : List UInt8) : Nat := if negP l then 1 else 0
theorem tw_len_le (l : List UInt8) : (l.takeWhile (· != 47)).length ≤ l.length := by
  have := congrArg List.length (List.takeWhile_append_dropWhile (p := (· != (47 : UInt8))) (l := l))
  rw [List.length_append] at this
  omega
theorem take_tw (l : List UInt8) : l.take (l.takeWhile (· != 47)).length = l.takeWhile (· != 47) := by
  have hsp : l = l.takeWhile (· != 47) ++ l.dropWhile (· != 47) := List.takeWhile_append_dropWhile.symm
  conv => lhs; arg 2; rw [hsp]
  exact List.take_left' rfl
theorem drop_tw (l : List UInt8) : l.drop (l.takeWhile (· != 47)).length = l.dropWhile (· != 47) := by
  have hsp : l = l.takeWhile (· != 47) ++ l.dropWhile (· != 47) := List.takeWhile_append_dropWhile.symm
  conv => lhs; arg 2; rw [hsp]
  exact List.drop_left' rfl
theorem tw_neg (l : List UInt8) (h : negP l = true) : l = 45 :: restP l ∧ (l.takeWhile (· != 47)) = 45 :: numP l ∧ l.dropWhile (· != 47) = tailP l := by
  unfold numP tailP restP
  rw [h, if_pos rfl]
  unfold negP at h
  cases l with
  | nil => simp at h
  | cons a r =>
    have : a = 45 := by simpa using h
    subst this
    exact ⟨rfl, rfl, rfl⟩
theorem tw_pos (l : List UInt8) (h : negP l = false) : restP l = l ∧ (l.takeWhile (· != 47)) = numP l ∧ l.dropWhile (· != 47) = tailP l := by
  unfold numP tailP restP
  rw [h]
  exact ⟨rfl, rfl, rfl⟩
theorem slash_parts (l : List UInt8) : frP l ≤ ffrom l 0 ∧ ffrom l 0 ≤ l.length ∧ (l.take (ffrom l 0)).drop (frP l) = numP l ∧ (ffrom l 0 < l.length ↔ tailP l ≠ []) ∧ l.drop (ffrom l 0 + 1) = (tailP l).drop 1 := by
  have e : ffrom l 0 = (l.takeWhile (· != 47)).length := by unfold ffrom; simp
  rw [e]
  have hd : l.dropWhile (· != 47) = tailP l := by
    rcases Bool.eq_false_or_eq_true (negP l) with h | h
    · exact (tw_neg l h).2.2
    · exact (tw_pos l h).2.2
  refine ⟨?_, tw_len_le l, ?_, ?_, ?_⟩
  · unfold frP
    rcases Bool.eq_false_or_eq_true (negP l) with h | h
    · rw [h, if_pos rfl, (tw_neg l h).2.1]; simp
    · rw [h]; simp
  · rw [take_tw]
    unfold frP
    rcases Bool.eq_false_or_eq_true (negP l) with h | h
    · rw [h, if_pos rfl, (tw_neg l h).2.1]; rfl
    · rw [h, (tw_pos l h).2.1]; rfl
  · rw [← hd, ← drop_tw]
    constructor
    · intro h e
      have := congrArg List.length e
      rw [List.length_drop] at this
      simp at this
      omega
    · intro h
      rcases Nat.lt_or_ge (l.takeWhile (· != 47)).length l.length with h1 | h1
      · exact h1
      · exact absurd (List.drop_eq_nil_of_le h1) h
  · rw [← hd, ← drop_tw, List.drop_drop]

/-- the number under way: the result's box, and the fraction's -/
def RpT (w : World) (bx : Nat) (g : Bool) (v1 v2 : Value) (m n : Nat) (w' : World) : Prop :=
  SuI w w' ∧ w.heap.size < bx ∧ Box w' bx 54 [.bool g, v1, v2] ∧ NatV w' .i64 R15 v1 m ∧ NatV w' .i64 R15 v2 n
theorem RpT.step {w : World} {bx : Nat} {g : Bool} {v1 v2 : Value} {m n : Nat} {w1 w2 : World} (hb : Below w1.heap.size w1 w2) (h : RpT w bx g v1 v2 m n w1) : RpT w bx g v1 v2 m n w2 := by
  obtain ⟨h1, h2, h3, h4, h5⟩ := h
  exact ⟨h1.step hb, h2, h3.below hb, h4.below hb, h5.below hb⟩
theorem RpT.cells {w : World} {bx : Nat} {g : Bool} {v1 v2 : Value} {m n : Nat} {w' : World} (h : RpT w bx g v1 v2 m n w') :
    w'.cell? ⟨bx, 0, none⟩ = some (.bool g) ∧ w'.cell? ⟨bx, 1, none⟩ = some v1 ∧ w'.cell? ⟨bx, 2, none⟩ = some v2 ∧ w'.frozen? ⟨bx, 0, none⟩ = false ∧ w'.frozen? ⟨bx, 1, none⟩ = false ∧ w'.frozen? ⟨bx, 2, none⟩ = false ∧
    w'.cell? ⟨w.heap.size, 0, none⟩ = some (.int .i64 0) ∧ w'.cell? ⟨w.heap.size, 1, none⟩ = some (.int .i64 0) ∧ w'.frozen? ⟨w.heap.size, 0, none⟩ = false ∧ w'.frozen? ⟨w.heap.size, 1, none⟩ = false :=
  ⟨h.2.2.1.cell 0 _ rfl, h.2.2.1.cell 1 _ rfl, h.2.2.1.cell 2 _ rfl, h.2.2.1.free 0, h.2.2.1.free 1, h.2.2.1.free 2, h.1.cells⟩
theorem RpT.set0 {w : World} {bx : Nat} {g : Bool} {a1 l1 c1 a2 l2 c2} {m n : Nat} {w1 : World} (h : RpT w bx g (.slice a1 l1 c1) (.slice a2 l2 c2) m n w1) (g2 : Bool) :
    RpT w bx g2 (.slice a1 l1 c1) (.slice a2 l2 c2) m n (w1.setCell ⟨bx, 0, none⟩ (.bool g2)) := by
  obtain ⟨h1, h2, h3, h4, h5⟩ := h
  exact ⟨h1.other bx 0 h2 _, h2, h3.set 0 _, h4.setR (HasR.box h3) 0 _, h5.setR (HasR.box h3) 0 _⟩
theorem RpT.set1 {w : World} {bx : Nat} {g : Bool} {a1 l1 c1 a2 l2 c2 a l c} {m n k : Nat} {w1 : World} (h : RpT w bx g (.slice a1 l1 c1) (.slice a2 l2 c2) m n w1) (hn : NatV w1 .i64 R15 (.slice a l c) k) :
    RpT w bx g (.slice a l c) (.slice a2 l2 c2) k n (w1.setCell ⟨bx, 1, none⟩ (.slice a l c)) := by
  obtain ⟨h1, h2, h3, h4, h5⟩ := h
  exact ⟨h1.other bx 1 h2 _, h2, h3.set 1 _, hn.setR (HasR.box h3) 1 _, h5.setR (HasR.box h3) 1 _⟩
theorem RpT.set2 {w : World} {bx : Nat} {g : Bool} {a1 l1 c1 a2 l2 c2 a l c} {m n k : Nat} {w1 : World} (h : RpT w bx g (.slice a1 l1 c1) (.slice a2 l2 c2) m n w1) (hn : NatV w1 .i64 R15 (.slice a l c) k) :
    RpT w bx g (.slice a1 l1 c1) (.slice a l c) m k (w1.setCell ⟨bx, 2, none⟩ (.slice a l c)) := by
  obtain ⟨h1, h2, h3, h4, h5⟩ := h
  exact ⟨h1.other bx 2 h2 _, h2, h3.set 2 _, h4.setR (HasR.box h3) 2 _, hn.setR (HasR.box h3) 2 _⟩
theorem RpT.fin {w : World} {bx : Nat} {g : Bool} {v1 v2 : Value} {m n : Nat} {w' : World} (h : RpT w bx g v1 v2 m n w') : Below w.heap.size w w' := h.1.1

set_option maxHeartbeats 1000000 in
theorem rparse_long (s : ByteArray) (w : World) (hs : 40 < s.size) : Calls Tryd.prog 7 #[.string s] w fun e w' => e = RatE (0, 0, 3) ∧ Below w.heap.size w w' := by
  have st := SuI.start w
  go_enter Tryd.func7, Tryd.ntmps7
  obtain ⟨k1, k2, k3, k4⟩ := st.cells
  go_wp2
  refine bodyPost_ret (v := .tuple #[.agg #[.int .i64 0, .int .i64 0], .int .i64 3]) (by simp [results, Tryd.results7, go_sem, k1, k2]) rfl ⟨rfl, st.1⟩

theorem RpT.start (w : World) : RpT w (w.heap.size + 1 + 1) false (.slice none 0 0) (.slice (some ⟨w.heap.size + 1, 0, none⟩) 1 1) 0 1
    (((w.alloc (Obj.cells #[.int .i64 0, .int .i64 0] 23)).alloc (Obj.cells #[.int .i64 1] 3)).alloc (Obj.cells #[.bool false, .slice none 0 0, .slice (some ⟨w.heap.size + 1, 0, none⟩) 1 1] 54)) := by
  have st := SuI.start w
  have n1 := NatV.litR (w.alloc (Obj.cells #[.int .i64 0, .int .i64 0] 23)) 1 (by omega)
  rw [digs1] at n1
  have hsz : (w.alloc (Obj.cells #[.int .i64 0, .int .i64 0] 23)).heap.size = w.heap.size + 1 := by simp
  rw [hsz] at n1
  have hb : ∀ (wx : World) (o : Obj), Below wx.heap.size wx (wx.alloc o) := fun wx o => (Below.refl _ _).alloc (Nat.le_refl _) _
  refine ⟨(st.alloc _).alloc _, by omega, ?_, NatV.zeroR _, n1.below (hb _ _)⟩
  have := Box.made ((w.alloc (Obj.cells #[.int .i64 0, .int .i64 0] 23)).alloc (Obj.cells #[.int .i64 1] 3)) 54 [.bool false, .slice none 0 0, .slice (some ⟨w.heap.size + 1, 0, none⟩) 1 1]
  have hsz2 : ((w.alloc (Obj.cells #[.int .i64 0, .int .i64 0] 23)).alloc (Obj.cells #[.int .i64 1] 3)).heap.size = w.heap.size + 1 + 1 := by simp
  rw [hsz2] at this
  exact this

end Go.Proofs.YtpjjbdpkhmeldaaDoor
