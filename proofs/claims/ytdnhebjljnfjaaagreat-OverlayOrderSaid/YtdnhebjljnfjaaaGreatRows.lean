/-
  No cell of these rows narrows 'for every input' (looked for: loops, veiled, ifaces, maps, wideKeys, modest, calm, conditions, laid).
  DERIVED. THE GIVEN ROWS OF THIS SEAT. 8 by the template 'for every input the law returns true; each argument reads behind the call as it read before'; 0 by the template 'total and deterministic' (their statements: YtdnhebjljnfjaaaGreatTotals.lean).
  GIVEN WITH THE SEED: the statements are not yours to turn. If you find one false, say at which input.
  Laid BY PROGRAM, IN A SANDBOX (cutbox-rows.mjs): the forced cells as the released guide's own fill.sh prints them over the translation e3ae9916db3b5b38… (all of the seat's roots in one cut). By AI agents, Wed Nov 11 2026. No macro, syntax, notation, axiom, sorry.
-/
import Derived.Test.YtdnhebjljnfjaaaGreatChecked
import GoSem.Claim
import GoSem.ClaimJoined
import GoSem.ClaimMapViews
import Derived.JoinedTies
import Derived.KernelRfl
namespace Go.Proofs.YtdnhebjljnfjaaaGreat
/- THE CELL 'sum', in the pinned program and in every row, IS THE sha256 OF THE DUMP (.gsa) THAT YtdnhebjljnfjaaaGreatProg.lean LOADS. Nothing in Lean hashes anything: it is a label: what it is worth is what the hold of that sum in a sandbox is worth. -/
noncomputable def Tryz.pinned : Pinned := { name := "ytdnhebjljnfjaaagreat", sum := "e3ae9916db3b5b38b1ececd860e1a31bb0a5f07aa24042002b22d550f5188b82", checked := Tryz.checked }
namespace Rows
def none {H : Type} : Left H := { results := [], args := [] }

/-- 'fretsawlaw19.OverlayBuild': WHATEVER THE INPUT: true; the input reads as it did. -/
def overlayBuildSpec : ChangeSpec := { name := "overlayBuild", fn := fun _ => fun
  | [d1, d2] => { results := [.lit (.bool true)], args := [d1, d2] }
  | _ => none }
def overlayBuildRow : OpenClaim := { program := "ytdnhebjljnfjaaagreat", sum := "e3ae9916db3b5b38b1ececd860e1a31bb0a5f07aa24042002b22d550f5188b82", func := "fretsaw/fretsawlaw19.OverlayBuild", spec := "overlayBuild", unfollowed := true, recurses := true, plainKeys := false, apart := false }
def OverlayBuildSaid : Prop := overlayBuildRow.holds Tryz.pinned (OpenSpec.ofChange overlayBuildSpec)

/-- ITS FALSE NEIGHBOUR: 'it returns false'. Refute it at one input. -/
def overlayBuildWrong : ChangeSpec := { name := "overlayBuild", fn := fun _ => fun
  | [d1, d2] => { results := [.lit (.bool false)], args := [d1, d2] }
  | _ => none }
def OverlayBuildWrongFalsely : Prop := overlayBuildRow.holds Tryz.pinned (OpenSpec.ofChange overlayBuildWrong)

/-- 'fretsawlaw19.OverlayEuler': WHATEVER THE INPUT: true; the input reads as it did. -/
def overlayEulerSpec : ChangeSpec := { name := "overlayEuler", fn := fun _ => fun
  | [d] => { results := [.lit (.bool true)], args := [d] }
  | _ => none }
def overlayEulerRow : OpenClaim := { program := "ytdnhebjljnfjaaagreat", sum := "e3ae9916db3b5b38b1ececd860e1a31bb0a5f07aa24042002b22d550f5188b82", func := "fretsaw/fretsawlaw19.OverlayEuler", spec := "overlayEuler", unfollowed := true, recurses := true, plainKeys := false, apart := false }
def OverlayEulerSaid : Prop := overlayEulerRow.holds Tryz.pinned (OpenSpec.ofChange overlayEulerSpec)

/-- ITS FALSE NEIGHBOUR: 'it returns false'. Refute it at one input. -/
def overlayEulerWrong : ChangeSpec := { name := "overlayEuler", fn := fun _ => fun
  | [d] => { results := [.lit (.bool false)], args := [d] }
  | _ => none }
def OverlayEulerWrongFalsely : Prop := overlayEulerRow.holds Tryz.pinned (OpenSpec.ofChange overlayEulerWrong)

/-- 'fretsawlaw19.OverlayCycles': WHATEVER THE INPUT: true; the input reads as it did. -/
def overlayCyclesSpec : ChangeSpec := { name := "overlayCycles", fn := fun _ => fun
  | [d] => { results := [.lit (.bool true)], args := [d] }
  | _ => none }
def overlayCyclesRow : OpenClaim := { program := "ytdnhebjljnfjaaagreat", sum := "e3ae9916db3b5b38b1ececd860e1a31bb0a5f07aa24042002b22d550f5188b82", func := "fretsaw/fretsawlaw19.OverlayCycles", spec := "overlayCycles", unfollowed := true, recurses := true, plainKeys := false, apart := false }
def OverlayCyclesSaid : Prop := overlayCyclesRow.holds Tryz.pinned (OpenSpec.ofChange overlayCyclesSpec)

/-- ITS FALSE NEIGHBOUR: 'it returns false'. Refute it at one input. -/
def overlayCyclesWrong : ChangeSpec := { name := "overlayCycles", fn := fun _ => fun
  | [d] => { results := [.lit (.bool false)], args := [d] }
  | _ => none }
def OverlayCyclesWrongFalsely : Prop := overlayCyclesRow.holds Tryz.pinned (OpenSpec.ofChange overlayCyclesWrong)

/-- 'fretsawlaw19.OverlayCovers': WHATEVER THE INPUT: true; the input reads as it did. -/
def overlayCoversSpec : ChangeSpec := { name := "overlayCovers", fn := fun _ => fun
  | [d1, d2] => { results := [.lit (.bool true)], args := [d1, d2] }
  | _ => none }
def overlayCoversRow : OpenClaim := { program := "ytdnhebjljnfjaaagreat", sum := "e3ae9916db3b5b38b1ececd860e1a31bb0a5f07aa24042002b22d550f5188b82", func := "fretsaw/fretsawlaw19.OverlayCovers", spec := "overlayCovers", unfollowed := true, recurses := true, plainKeys := false, apart := false }
def OverlayCoversSaid : Prop := overlayCoversRow.holds Tryz.pinned (OpenSpec.ofChange overlayCoversSpec)

/-- ITS FALSE NEIGHBOUR: 'it returns false'. Refute it at one input. -/
def overlayCoversWrong : ChangeSpec := { name := "overlayCovers", fn := fun _ => fun
  | [d1, d2] => { results := [.lit (.bool false)], args := [d1, d2] }
  | _ => none }
def OverlayCoversWrongFalsely : Prop := overlayCoversRow.holds Tryz.pinned (OpenSpec.ofChange overlayCoversWrong)

/-- 'fretsawlaw19.OverlayAreas': WHATEVER THE INPUT: true; the input reads as it did. -/
def overlayAreasSpec : ChangeSpec := { name := "overlayAreas", fn := fun _ => fun
  | [d1, d2] => { results := [.lit (.bool true)], args := [d1, d2] }
  | _ => none }
def overlayAreasRow : OpenClaim := { program := "ytdnhebjljnfjaaagreat", sum := "e3ae9916db3b5b38b1ececd860e1a31bb0a5f07aa24042002b22d550f5188b82", func := "fretsaw/fretsawlaw19.OverlayAreas", spec := "overlayAreas", unfollowed := true, recurses := true, plainKeys := false, apart := false }
def OverlayAreasSaid : Prop := overlayAreasRow.holds Tryz.pinned (OpenSpec.ofChange overlayAreasSpec)

/-- ITS FALSE NEIGHBOUR: 'it returns false'. Refute it at one input. -/
def overlayAreasWrong : ChangeSpec := { name := "overlayAreas", fn := fun _ => fun
  | [d1, d2] => { results := [.lit (.bool false)], args := [d1, d2] }
  | _ => none }
def OverlayAreasWrongFalsely : Prop := overlayAreasRow.holds Tryz.pinned (OpenSpec.ofChange overlayAreasWrong)

/-- 'fretsawlaw19.OverlayOrder': WHATEVER THE INPUT: true; the input reads as it did. -/
def overlayOrderSpec : ChangeSpec := { name := "overlayOrder", fn := fun _ => fun
  | [d1, d2, d3] => { results := [.lit (.bool true)], args := [d1, d2, d3] }
  | _ => none }
def overlayOrderRow : OpenClaim := { program := "ytdnhebjljnfjaaagreat", sum := "e3ae9916db3b5b38b1ececd860e1a31bb0a5f07aa24042002b22d550f5188b82", func := "fretsaw/fretsawlaw19.OverlayOrder", spec := "overlayOrder", unfollowed := true, recurses := true, plainKeys := false, apart := false }
def OverlayOrderSaid : Prop := overlayOrderRow.holds Tryz.pinned (OpenSpec.ofChange overlayOrderSpec)

/-- ITS FALSE NEIGHBOUR: 'it returns false'. Refute it at one input. -/
def overlayOrderWrong : ChangeSpec := { name := "overlayOrder", fn := fun _ => fun
  | [d1, d2, d3] => { results := [.lit (.bool false)], args := [d1, d2, d3] }
  | _ => none }
def OverlayOrderWrongFalsely : Prop := overlayOrderRow.holds Tryz.pinned (OpenSpec.ofChange overlayOrderWrong)

/-- 'fretsawlaw19.OverlayCorners': WHATEVER THE INPUT: true; the input reads as it did. -/
def overlayCornersSpec : ChangeSpec := { name := "overlayCorners", fn := fun _ => fun
  | [d1, d2, d3] => { results := [.lit (.bool true)], args := [d1, d2, d3] }
  | _ => none }
def overlayCornersRow : OpenClaim := { program := "ytdnhebjljnfjaaagreat", sum := "e3ae9916db3b5b38b1ececd860e1a31bb0a5f07aa24042002b22d550f5188b82", func := "fretsaw/fretsawlaw19.OverlayCorners", spec := "overlayCorners", unfollowed := true, recurses := true, plainKeys := false, apart := false }
def OverlayCornersSaid : Prop := overlayCornersRow.holds Tryz.pinned (OpenSpec.ofChange overlayCornersSpec)

/-- ITS FALSE NEIGHBOUR: 'it returns false'. Refute it at one input. -/
def overlayCornersWrong : ChangeSpec := { name := "overlayCorners", fn := fun _ => fun
  | [d1, d2, d3] => { results := [.lit (.bool false)], args := [d1, d2, d3] }
  | _ => none }
def OverlayCornersWrongFalsely : Prop := overlayCornersRow.holds Tryz.pinned (OpenSpec.ofChange overlayCornersWrong)

/-- 'fretsawlaw19.OverlayShape': WHATEVER THE INPUT: true; the input reads as it did. -/
def overlayShapeSpec : ChangeSpec := { name := "overlayShape", fn := fun _ => fun
  | [d] => { results := [.lit (.bool true)], args := [d] }
  | _ => none }
def overlayShapeRow : OpenClaim := { program := "ytdnhebjljnfjaaagreat", sum := "e3ae9916db3b5b38b1ececd860e1a31bb0a5f07aa24042002b22d550f5188b82", func := "fretsaw/fretsawlaw19.OverlayShape", spec := "overlayShape", unfollowed := true, recurses := true, plainKeys := false, apart := false }
def OverlayShapeSaid : Prop := overlayShapeRow.holds Tryz.pinned (OpenSpec.ofChange overlayShapeSpec)

/-- ITS FALSE NEIGHBOUR: 'it returns false'. Refute it at one input. -/
def overlayShapeWrong : ChangeSpec := { name := "overlayShape", fn := fun _ => fun
  | [d] => { results := [.lit (.bool false)], args := [d] }
  | _ => none }
def OverlayShapeWrongFalsely : Prop := overlayShapeRow.holds Tryz.pinned (OpenSpec.ofChange overlayShapeWrong)

/- THE SECOND FORM. 'bulk': how many values and letters a reading holds, each counted each time it is reached (what is shared counts as often as it is met; a slice's spare places count too). A statement '..UptoSaid' is the law's where the arguments, and the package variables that the reading takes, are together of bulk at most 1048576: NARROWER than '..Said'. Prove '..Said' where nothing that the law and all that it calls make is longer than what came in: it says more and counts as full. Else prove '..UptoSaid'. A law counts once. -/
mutual
def uptoBulk {H : Type} : DataW H → Nat
  | .lit (.string bytes) => bytes.length + 1
  | .lit _ => 1
  | .nil => 1
  | .ptr d => uptoBulk d + 1
  | .slice elems spare => uptoBulkAll elems + uptoBulkAll spare + 1
  | .agg parts => uptoBulkAll parts + 1
  | .iface _ d => uptoBulk d + 1
  | .map entries => uptoBulkEntries entries + 1
  | .held _ => 1
def uptoBulkAll {H : Type} : List (DataW H) → Nat
  | [] => 0
  | d :: r => uptoBulk d + uptoBulkAll r
def uptoBulkEntries {H : Type} : List (Lit × DataW H) → Nat
  | [] => 0
  | x :: r => uptoBulkEntry x + uptoBulkEntries r
def uptoBulkEntry {H : Type} : Lit × DataW H → Nat
  | (.string bytes, d) => bytes.length + uptoBulk d + 1
  | (_, d) => uptoBulk d + 1
 end
def uptoSmall : (H : Type) → List (DataW H) → Bool := fun _ ds => decide (uptoBulkAll ds ≤ 1048576)
def OpenSpec.upto (s : _root_.Go.ChangeSpec) : _root_.Go.OpenSpec := { _root_.Go.OpenSpec.ofChange s with cond := some uptoSmall }

/-- 'fretsawlaw19.OverlayBuild', WHERE WHAT IT READS IS OF BULK AT MOST 1048576: true; the input reads as it did. -/
def overlayBuildUptoRow : OpenClaim := { program := "ytdnhebjljnfjaaagreat", sum := "e3ae9916db3b5b38b1ececd860e1a31bb0a5f07aa24042002b22d550f5188b82", func := "fretsaw/fretsawlaw19.OverlayBuild", spec := "overlayBuild", unfollowed := true, recurses := true, plainKeys := false, apart := false, narrowed := true }
def OverlayBuildUptoSaid : Prop := overlayBuildUptoRow.holds Tryz.pinned (OpenSpec.upto overlayBuildSpec)

/-- 'fretsawlaw19.OverlayEuler', WHERE WHAT IT READS IS OF BULK AT MOST 1048576: true; the input reads as it did. -/
def overlayEulerUptoRow : OpenClaim := { program := "ytdnhebjljnfjaaagreat", sum := "e3ae9916db3b5b38b1ececd860e1a31bb0a5f07aa24042002b22d550f5188b82", func := "fretsaw/fretsawlaw19.OverlayEuler", spec := "overlayEuler", unfollowed := true, recurses := true, plainKeys := false, apart := false, narrowed := true }
def OverlayEulerUptoSaid : Prop := overlayEulerUptoRow.holds Tryz.pinned (OpenSpec.upto overlayEulerSpec)

/-- 'fretsawlaw19.OverlayCycles', WHERE WHAT IT READS IS OF BULK AT MOST 1048576: true; the input reads as it did. -/
def overlayCyclesUptoRow : OpenClaim := { program := "ytdnhebjljnfjaaagreat", sum := "e3ae9916db3b5b38b1ececd860e1a31bb0a5f07aa24042002b22d550f5188b82", func := "fretsaw/fretsawlaw19.OverlayCycles", spec := "overlayCycles", unfollowed := true, recurses := true, plainKeys := false, apart := false, narrowed := true }
def OverlayCyclesUptoSaid : Prop := overlayCyclesUptoRow.holds Tryz.pinned (OpenSpec.upto overlayCyclesSpec)

/-- 'fretsawlaw19.OverlayCovers', WHERE WHAT IT READS IS OF BULK AT MOST 1048576: true; the input reads as it did. -/
def overlayCoversUptoRow : OpenClaim := { program := "ytdnhebjljnfjaaagreat", sum := "e3ae9916db3b5b38b1ececd860e1a31bb0a5f07aa24042002b22d550f5188b82", func := "fretsaw/fretsawlaw19.OverlayCovers", spec := "overlayCovers", unfollowed := true, recurses := true, plainKeys := false, apart := false, narrowed := true }
def OverlayCoversUptoSaid : Prop := overlayCoversUptoRow.holds Tryz.pinned (OpenSpec.upto overlayCoversSpec)

/-- 'fretsawlaw19.OverlayAreas', WHERE WHAT IT READS IS OF BULK AT MOST 1048576: true; the input reads as it did. -/
def overlayAreasUptoRow : OpenClaim := { program := "ytdnhebjljnfjaaagreat", sum := "e3ae9916db3b5b38b1ececd860e1a31bb0a5f07aa24042002b22d550f5188b82", func := "fretsaw/fretsawlaw19.OverlayAreas", spec := "overlayAreas", unfollowed := true, recurses := true, plainKeys := false, apart := false, narrowed := true }
def OverlayAreasUptoSaid : Prop := overlayAreasUptoRow.holds Tryz.pinned (OpenSpec.upto overlayAreasSpec)

/-- 'fretsawlaw19.OverlayOrder', WHERE WHAT IT READS IS OF BULK AT MOST 1048576: true; the input reads as it did. -/
def overlayOrderUptoRow : OpenClaim := { program := "ytdnhebjljnfjaaagreat", sum := "e3ae9916db3b5b38b1ececd860e1a31bb0a5f07aa24042002b22d550f5188b82", func := "fretsaw/fretsawlaw19.OverlayOrder", spec := "overlayOrder", unfollowed := true, recurses := true, plainKeys := false, apart := false, narrowed := true }
def OverlayOrderUptoSaid : Prop := overlayOrderUptoRow.holds Tryz.pinned (OpenSpec.upto overlayOrderSpec)

/-- 'fretsawlaw19.OverlayCorners', WHERE WHAT IT READS IS OF BULK AT MOST 1048576: true; the input reads as it did. -/
def overlayCornersUptoRow : OpenClaim := { program := "ytdnhebjljnfjaaagreat", sum := "e3ae9916db3b5b38b1ececd860e1a31bb0a5f07aa24042002b22d550f5188b82", func := "fretsaw/fretsawlaw19.OverlayCorners", spec := "overlayCorners", unfollowed := true, recurses := true, plainKeys := false, apart := false, narrowed := true }
def OverlayCornersUptoSaid : Prop := overlayCornersUptoRow.holds Tryz.pinned (OpenSpec.upto overlayCornersSpec)

/-- 'fretsawlaw19.OverlayShape', WHERE WHAT IT READS IS OF BULK AT MOST 1048576: true; the input reads as it did. -/
def overlayShapeUptoRow : OpenClaim := { program := "ytdnhebjljnfjaaagreat", sum := "e3ae9916db3b5b38b1ececd860e1a31bb0a5f07aa24042002b22d550f5188b82", func := "fretsaw/fretsawlaw19.OverlayShape", spec := "overlayShape", unfollowed := true, recurses := true, plainKeys := false, apart := false, narrowed := true }
def OverlayShapeUptoSaid : Prop := overlayShapeUptoRow.holds Tryz.pinned (OpenSpec.upto overlayShapeSpec)

end Rows
end Go.Proofs.YtdnhebjljnfjaaaGreat
