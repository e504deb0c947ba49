/- RatioTexts, joined -/
import Derived.Test.YtpjjbdpkhmeldaaDoorT10
import Derived.Test.YtpjjbdpkhmeldaaDoorRows
import Derived.Test.YtpjjbdpkhmeldaaDoorCards
import Derived.Test.YtpjjbdpkhmeldaaDoorTie
import Derived.ProofKit
import Derived.Carry
import Derived.Lib.SmallJoins
import Derived.LaidMore
import Derived.OpenShut
import Derived.Stop.Joined
import Derived.SevenTiedAt
import Derived.Shelf.Vars
import Derived.Lib.LaidTab
namespace Go.Proofs.YtpjjbdpkhmeldaaDoor
open Go.ChangeShapes Go.WideShapes Go.ChangeAt Go.RowKit Go.Joins
open Go.ChangeMaps (open_string shut_string)

theorem Tryd.own : ownKnob Tryd.prog.godebug = none := by kernel_rfl
theorem Tryd.laidOut : laidOutB Tryd.prog = true := by kernel_rfl
theorem cells23 : Tryd.prog.cellsOf 23 = 2 := by kernel_rfl

theorem i64_of_wf {n : Int} (h : (Lit.int .i64 n).wf = true) : I64 n := by
  simp [Lit.wf, IntKind.min, IntKind.max, IntKind.signed, IntKind.bits] at h
  unfold I64
  omega

section
variable {H : Type} {enc : TypeId × Value → H} {w : World} {base : Nat} {spare : Nat → Bool} {held : Bool}
set_option maxRecDepth 100000 in
theorem open_ratio {r : Reach} {b0 : Nat} {v : Value} {d : DataW H} {p : List MemPlace} (hv : Value.okWide Tryd.prog w r b0 23 v) (h : DataW.Trod enc Tryd.prog w base spare held 23 v d p) :
    ∃ n m : Int, v = .agg #[.int .i64 n, .int .i64 m] ∧ I64 n ∧ I64 m := by
  obtain ⟨v0, v1, y0, y1, n, rfl, _, _, h0, h1⟩ := open_agg2 Tryd.underlying23 (by kernel_rfl) cells23 hv h
  obtain ⟨a, ha, _, wa⟩ := DataW.trod_int Tryd.underlying3 h0
  obtain ⟨b, hb, _, wb⟩ := DataW.trod_int Tryd.underlying3 h1
  simp only [List.cons.injEq, and_true] at ha hb
  subst ha hb
  exact ⟨a, b, rfl, i64_of_wf wa, i64_of_wf wb⟩
end

theorem gPow : Tryd.prog.globalNamed "internal/strconv.uint64pow10" = some 1 := by kernel_rfl
theorem gDb : Tryd.prog.globalNamed "math/bits.deBruijn64tab" = some 3 := by kernel_rfl
theorem tPow : (Tryd.prog.globals[1]?).map (·.type) = some 97 := by kernel_rfl
theorem tDb : (Tryd.prog.globals[3]?).map (·.type) = some 104 := by kernel_rfl
theorem uPow : Tryd.prog.underlying 97 = some (.array 20 44) := by kernel_rfl
theorem uDb : Tryd.prog.underlying 104 = some (.array 64 5) := by kernel_rfl
theorem uU64 : Tryd.prog.underlying 44 = some (.int .u64) := by kernel_rfl
theorem uU8 : Tryd.prog.underlying 5 = some (.int .u8) := by kernel_rfl
theorem cU64 : Tryd.prog.cellsOf 44 = 1 := by kernel_rfl
theorem cU8 : Tryd.prog.cellsOf 5 = 1 := by kernel_rfl
theorem cPow : Tryd.prog.cellsOf 97 = 20 := by kernel_rfl
theorem cDb : Tryd.prog.cellsOf 104 = 64 := by kernel_rfl
def dbTab : List Int := [0, 1, 56, 2, 57, 49, 28, 3, 61, 58, 42, 50, 38, 29, 17, 4, 62, 47, 59, 36, 45, 43, 51, 22, 53, 39, 33, 30, 24, 18, 12, 5, 63, 55, 48, 27, 60, 41, 37, 16, 46, 35, 44, 21, 52, 32, 23, 11, 54, 26, 40, 15, 34, 20, 31, 10, 25, 14, 19, 9, 13, 8, 7, 6]
theorem dbTab_is {H : Type} : (Rows.laid_math_bits_deBruijn64tab : DataW H) = Lib.tabData .u8 dbTab := rfl
theorem powTab_is {H : Type} : (Rows.laid_internal_strconv_uint64pow10 : DataW H) = Lib.tabData .u64 Lib.pow10Tab := rfl

theorem env_of {W : World} (hsh : W.ShapedOpen Tryd.prog) (h : laidMetH Tryd.prog Rows.ratioTextsRow.laid W) : Env W := by
  rw [MakeChecks.laidMetH_plain _ _ _ (by kernel_rfl)] at h
  obtain ⟨ps, ⟨g0, t0, cs0, f0, p0, q0, hg0, ht0, hv0, hd0, ⟨g1, t1, cs1, f1, p1, q1, hg1, ht1, hv1, hd1, ⟨g2, t2, cs2, f2, p2, q2, hg2, ht2, hv2, hd2, _, _⟩, _⟩, _⟩, _, _⟩ := h
  obtain rfl := Option.some.inj (gDb.symm.trans hg1)
  obtain rfl := Option.some.inj (gPow.symm.trans hg2)
  obtain rfl := Option.some.inj (tDb.symm.trans ht1)
  obtain rfl := Option.some.inj (tPow.symm.trans ht2)
  have e1 := Lib.cells_of_tab (k := .u8) (zs := dbTab) uDb uU8 cU8 cDb (by rw [dbTab_is] at hd1; exact hd1)
  have e2 := Lib.cells_of_tab (k := .u64) (zs := Lib.pow10Tab) uPow uU64 cU64 cPow (by rw [powTab_is] at hd2; exact hd2)
  refine ⟨?_, ?_, ?_⟩
  · unfold Lib.TabIs
    rw [hv2, ← e2]
  · exact Tryd.laysM145.s1_3 W hsh
  · have h0 := World.var?_cell hg1 hv1 0
    have hlt : (W.cell? ⟨3, 0, none⟩).isSome = true := by
      rw [h0]
      cases cs1 with
      | mk l =>
        simp only at e1
        subst e1
        rfl
    obtain ⟨u, hu⟩ := Option.isSome_iff_exists.1 hlt
    have := World.block_lt_of_cell? W _ hu
    exact this

set_option maxRecDepth 100000 in
theorem door_met (os : Os) (args : Array Value) : laidMetH Tryd.prog Rows.ratioTextsRow.laid ((World.doorLaid Tryd.prog 4000 os).forCall (fun _ _ => 0) ⟨#[], args, []⟩).memory :=
  laidMetH_of_parts3 (fuel := 8) (laidMet_of_run' 8 (by kernel_rfl) (by kernel_rfl)) (by kernel_rfl) (by kernel_rfl)

set_option maxRecDepth 100000 in
theorem texts_core {H : Type} {enc : TypeId × Value → H} (W : World) (base : Nat) (args : Array Value) (ds gs : List (DataW H)) (before : List MemPlace)
    (hval0 : ∀ (j : Nat) t v, Tryd.f3.params[j]? = some t → args[j]? = some v → Value.okWide Tryd.prog W .any base t v)
    (hW : DataW.Whole enc Tryd.prog Tryd.f3.params.toList Rows.ratioTextsSpec.vars false W args.toList ds gs before) (hE : Env W) :
    Calls Tryd.prog 3 args W fun e W' => ∃ v, e = .returned v ∧ Rows.ratioTextsSpec.post enc Tryd.prog Tryd.f3 false true false false W args v W' := by
  have hval : ∀ (j : Nat) t v, Tryd.f3.params[j]? = some t → args[j]? = some v → Value.okWide Tryd.prog W .any base t v := hval0
  have hW' := hW
  obtain ⟨p, q, hA0, hV, rfl, hfz, hnd⟩ := hW
  have hA : DataW.TrodAll enc Tryd.prog W 0 (fun _ => true) true Tryd.f3.params.toList args.toList ds p := hA0
  rw [Tryd.params3] at hA hval
  obtain ⟨v0, v1, d0, d1, p0, p1, rfl, rfl, rfl, h0, h1⟩ := trodAll_two hA
  obtain ⟨rfl, rfl⟩ := trodVars_none hV
  obtain ⟨n0, m0, rfl, i0, j0⟩ := open_ratio (hval 0 23 v0 rfl rfl) h0
  obtain ⟨s, rfl, rfl, rfl, hs⟩ := open_string Tryd.underlying9 (hval 1 9 v1 rfl rfl) h1
  clear hA0 hval0
  simp only [List.append_nil] at hW'
  refine (texts_any n0 m0 s W i0 j0 hE).mono fun e W' ⟨he, hB⟩ => ?_
  subst he
  have hlt0 : ∀ x ∈ p0, x.block < W.heap.size := fun x hx => by simpa using hW'.lt x (by simp [hx])
  refine ⟨_, rfl, _, _, _, [], (p0 ++ []), [], hW', ?_, ?_, rfl, hB.frame _, fun h => by cases h⟩
  · exact trodAll_mk1 (shut_bool Tryd.underlying4 true)
  · exact trodAll_mk2 (Below.trod Tryd.laidOut (by kernel_rfl) (of_decide_eq_true (by kernel_rfl)) h0 hB hlt0) (shut_string Tryd.underlying9 hs)

set_option maxRecDepth 100000 in
theorem texts_lifted (os : Os) (started : os.Started) (H : Type) (enc : TypeId × Value → H) :
    ReturnsInHanded {} Tryd.checked os 3 .any (fun w args => (Rows.ratioTextsSpec.pre enc Tryd.prog Tryd.f3 [] false w args ∧ laidMetH Tryd.prog Rows.ratioTextsRow.laid w) ∧ sizedMet enc Tryd.prog Tryd.f3 (OpenSpec.ofChange Rows.ratioTextsSpec) false w args)
      (Rows.ratioTextsSpec.post enc Tryd.prog Tryd.f3 false true false false) := by
  refine returnsInHanded_of_calls (C := Tryd.checked) Tryd.own started (by kernel_rfl)
    (ChangeSpec.witness_shaped (enc := enc) (C := Tryd.checked) (os := os) (X := fun w _ => laidMetH Tryd.prog Rows.ratioTextsRow.laid w) false (World.doorLaid Tryd.prog 4000 os) #[.agg #[.int .i64 0, .int .i64 0], .string ⟨#[]⟩] 8 rfl (World.shaped_of_RefB (by kernel_rfl) (by kernel_rfl)) (by kernel_rfl) (by kernel_rfl) (by kernel_rfl) (door_met os _)) ?_
  intro w tape i _ hsh _ hok hpre hholds
  obtain ⟨_, _, _, fn', hfn', _, _, _, _, hval0⟩ := hok
  obtain rfl : fn' = Tryd.f3 := Option.some.inj (hfn'.symm.trans Tryd.func3)
  obtain ⟨⟨⟨ds, gs, before, hw0, _⟩, hL0⟩, _⟩ := hpre
  have hW := DataW.Whole.of_heap (w' := w.forCall tape i) (by rfl) hw0
  have hL := hL0.of_heap (w' := w.forCall tape i) (by rfl)
  have hE := env_of hsh hL
  refine (texts_core (enc := enc) (w.forCall tape i) w.heap.size i.args ds gs before hval0 hW hE).mono fun e W' ⟨v, he, hp⟩ => ?_
  subst he
  exact ChangeSpec.post_blind hp

theorem texts_holds : Rows.RatioTextsSaid :=
  OpenClaim.holds_of_wide 3 Tryd.f3 rfl rfl rfl rfl rfl rfl rfl ⟨rfl, rfl, rfl, rfl, rfl⟩ rfl rfl rfl rfl rfl (by kernel_rfl) Tryd.func3 (by kernel_rfl)
    (of_decide_eq_true (by kernel_rfl)) (by unfold Func.isWrapper; first | (rw [if_pos (by decide +kernel)]; kernel_rfl) | (rw [if_neg (by decide +kernel)]; exact ⟨rfl, rfl⟩))
    (fun os started H enc _ => texts_lifted os started H enc)

/-- the tied card -/
theorem texts_card : Rows.RatioTextsCardSaid :=
  Claim7.holds_tied_plain_at .later [] [.data, .data, .data] true (true, "1602677cd92187f7d1e0efc1299c949f97b1412b7c58035b0cb6a88eb5dd4143") false
    texts_holds (fun _ h => by cases h) (by kernel_rfl) (fun _ h => by cases h) ratioTexts_row_tie rfl ⟨rfl, rfl⟩ (by kernel_rfl) rfl
    (fun f fn hf hfn => by
      obtain rfl : f = 3 := Option.some.inj ((show Tryd.prog.funcNamed "fretsaw/fretsawlaw05.RatioTexts" = some 3 by kernel_rfl).symm.trans hf) |>.symm
      obtain rfl : fn = Tryd.f3 := (Option.some.inj (Tryd.func3.symm.trans hfn)).symm
      exact ⟨by kernel_rfl, fun j t ht => by
        rw [Tryd.params3] at ht
        have h3 : t = 23 ∨ t = 9 := by
          rcases j with _ | _ | j
          · left; simpa using ht.symm
          · right; simpa using ht.symm
          · simp at ht
        rcases h3 with rfl | rfl
        · exact (show Tryd.prog.wantsStandIn 23 = false by kernel_rfl)
        · exact (show Tryd.prog.wantsStandIn 9 = false by kernel_rfl)⟩)
    (by kernel_rfl)

end Go.Proofs.YtpjjbdpkhmeldaaDoor
