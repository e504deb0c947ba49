/-
  No cell of these rows narrows 'for every input' (looked for: loops, veiled, ifaces, maps, wideKeys, modest, calm, conditions, laid).
  DERIVED. THE GIVEN ROWS OF THIS SEAT. 12 by the template 'for every input the law returns true; each argument reads behind the call as it read before'; 0 by the template 'total and deterministic' (their statements: YthbofdolalagjaaGreatTotals.lean).
  GIVEN WITH THE SEED: the statements are not yours to turn. If you find one false, say at which input.
  Laid BY PROGRAM, IN A SANDBOX (cutbox-rows.mjs): the forced cells as the released guide's own fill.sh prints them over the translation b7ad4d9c6a294f7b… (all of the seat's roots in one cut). By AI agents, Wed Nov 11 2026. No macro, syntax, notation, axiom, sorry.
-/
import Derived.Test.YthbofdolalagjaaGreatChecked
import GoSem.Claim
import GoSem.ClaimJoined
import GoSem.ClaimMapViews
import Derived.JoinedTies
import Derived.KernelRfl
namespace Go.Proofs.YthbofdolalagjaaGreat
/- THE CELL 'sum', in the pinned program and in every row, IS THE sha256 OF THE DUMP (.gsa) THAT YthbofdolalagjaaGreatProg.lean LOADS. Nothing in Lean hashes anything: it is a label: what it is worth is what the hold of that sum in a sandbox is worth. -/
noncomputable def Tryz.pinned : Pinned := { name := "ythbofdolalagjaagreat", sum := "b7ad4d9c6a294f7b1a38d6f6a188ddcaf8faccc564b8d8c2a0908c6c8acfa422", checked := Tryz.checked }
namespace Rows
def none {H : Type} : Left H := { results := [], args := [] }

/-- 'fretsawlaw13.TriangleLists': WHATEVER THE INPUT: true; the input reads as it did. -/
def triangleListsSpec : ChangeSpec := { name := "triangleLists", fn := fun _ => fun
  | [d] => { results := [.lit (.bool true)], args := [d] }
  | _ => none }
def triangleListsRow : OpenClaim := { program := "ythbofdolalagjaagreat", sum := "b7ad4d9c6a294f7b1a38d6f6a188ddcaf8faccc564b8d8c2a0908c6c8acfa422", func := "fretsaw/fretsawlaw13.TriangleLists", spec := "triangleLists", unfollowed := true, recurses := true, plainKeys := false, apart := false }
def TriangleListsSaid : Prop := triangleListsRow.holds Tryz.pinned (OpenSpec.ofChange triangleListsSpec)

/-- ITS FALSE NEIGHBOUR: 'it returns false'. Refute it at one input. -/
def triangleListsWrong : ChangeSpec := { name := "triangleLists", fn := fun _ => fun
  | [d] => { results := [.lit (.bool false)], args := [d] }
  | _ => none }
def TriangleListsWrongFalsely : Prop := triangleListsRow.holds Tryz.pinned (OpenSpec.ofChange triangleListsWrong)

/-- 'fretsawlaw13.TriangleCheck': WHATEVER THE INPUT: true; the input reads as it did. -/
def triangleCheckSpec : ChangeSpec := { name := "triangleCheck", fn := fun _ => fun
  | [d1, d2] => { results := [.lit (.bool true)], args := [d1, d2] }
  | _ => none }
def triangleCheckRow : OpenClaim := { program := "ythbofdolalagjaagreat", sum := "b7ad4d9c6a294f7b1a38d6f6a188ddcaf8faccc564b8d8c2a0908c6c8acfa422", func := "fretsaw/fretsawlaw13.TriangleCheck", spec := "triangleCheck", unfollowed := true, recurses := true, plainKeys := false, apart := false }
def TriangleCheckSaid : Prop := triangleCheckRow.holds Tryz.pinned (OpenSpec.ofChange triangleCheckSpec)

/-- ITS FALSE NEIGHBOUR: 'it returns false'. Refute it at one input. -/
def triangleCheckWrong : ChangeSpec := { name := "triangleCheck", fn := fun _ => fun
  | [d1, d2] => { results := [.lit (.bool false)], args := [d1, d2] }
  | _ => none }
def TriangleCheckWrongFalsely : Prop := triangleCheckRow.holds Tryz.pinned (OpenSpec.ofChange triangleCheckWrong)

/-- 'fretsawlaw13.TriangleCounts': WHATEVER THE INPUT: true; the input reads as it did. -/
def triangleCountsSpec : ChangeSpec := { name := "triangleCounts", fn := fun _ => fun
  | [d] => { results := [.lit (.bool true)], args := [d] }
  | _ => none }
def triangleCountsRow : OpenClaim := { program := "ythbofdolalagjaagreat", sum := "b7ad4d9c6a294f7b1a38d6f6a188ddcaf8faccc564b8d8c2a0908c6c8acfa422", func := "fretsaw/fretsawlaw13.TriangleCounts", spec := "triangleCounts", unfollowed := true, recurses := true, plainKeys := false, apart := false }
def TriangleCountsSaid : Prop := triangleCountsRow.holds Tryz.pinned (OpenSpec.ofChange triangleCountsSpec)

/-- ITS FALSE NEIGHBOUR: 'it returns false'. Refute it at one input. -/
def triangleCountsWrong : ChangeSpec := { name := "triangleCounts", fn := fun _ => fun
  | [d] => { results := [.lit (.bool false)], args := [d] }
  | _ => none }
def TriangleCountsWrongFalsely : Prop := triangleCountsRow.holds Tryz.pinned (OpenSpec.ofChange triangleCountsWrong)

/-- 'fretsawlaw13.TriangleMaximal': WHATEVER THE INPUT: true; the input reads as it did. -/
def triangleMaximalSpec : ChangeSpec := { name := "triangleMaximal", fn := fun _ => fun
  | [d] => { results := [.lit (.bool true)], args := [d] }
  | _ => none }
def triangleMaximalRow : OpenClaim := { program := "ythbofdolalagjaagreat", sum := "b7ad4d9c6a294f7b1a38d6f6a188ddcaf8faccc564b8d8c2a0908c6c8acfa422", func := "fretsaw/fretsawlaw13.TriangleMaximal", spec := "triangleMaximal", unfollowed := true, recurses := true, plainKeys := false, apart := false }
def TriangleMaximalSaid : Prop := triangleMaximalRow.holds Tryz.pinned (OpenSpec.ofChange triangleMaximalSpec)

/-- ITS FALSE NEIGHBOUR: 'it returns false'. Refute it at one input. -/
def triangleMaximalWrong : ChangeSpec := { name := "triangleMaximal", fn := fun _ => fun
  | [d] => { results := [.lit (.bool false)], args := [d] }
  | _ => none }
def TriangleMaximalWrongFalsely : Prop := triangleMaximalRow.holds Tryz.pinned (OpenSpec.ofChange triangleMaximalWrong)

/-- 'fretsawlaw13.TriangleSides': WHATEVER THE INPUT: true; the input reads as it did. -/
def triangleSidesSpec : ChangeSpec := { name := "triangleSides", fn := fun _ => fun
  | [d] => { results := [.lit (.bool true)], args := [d] }
  | _ => none }
def triangleSidesRow : OpenClaim := { program := "ythbofdolalagjaagreat", sum := "b7ad4d9c6a294f7b1a38d6f6a188ddcaf8faccc564b8d8c2a0908c6c8acfa422", func := "fretsaw/fretsawlaw13.TriangleSides", spec := "triangleSides", unfollowed := true, recurses := true, plainKeys := false, apart := false }
def TriangleSidesSaid : Prop := triangleSidesRow.holds Tryz.pinned (OpenSpec.ofChange triangleSidesSpec)

/-- ITS FALSE NEIGHBOUR: 'it returns false'. Refute it at one input. -/
def triangleSidesWrong : ChangeSpec := { name := "triangleSides", fn := fun _ => fun
  | [d] => { results := [.lit (.bool false)], args := [d] }
  | _ => none }
def TriangleSidesWrongFalsely : Prop := triangleSidesRow.holds Tryz.pinned (OpenSpec.ofChange triangleSidesWrong)

/-- 'fretsawlaw13.TrianglePoints': WHATEVER THE INPUT: true; the input reads as it did. -/
def trianglePointsSpec : ChangeSpec := { name := "trianglePoints", fn := fun _ => fun
  | [d1, d2] => { results := [.lit (.bool true)], args := [d1, d2] }
  | _ => none }
def trianglePointsRow : OpenClaim := { program := "ythbofdolalagjaagreat", sum := "b7ad4d9c6a294f7b1a38d6f6a188ddcaf8faccc564b8d8c2a0908c6c8acfa422", func := "fretsaw/fretsawlaw13.TrianglePoints", spec := "trianglePoints", unfollowed := true, recurses := true, plainKeys := false, apart := false }
def TrianglePointsSaid : Prop := trianglePointsRow.holds Tryz.pinned (OpenSpec.ofChange trianglePointsSpec)

/-- ITS FALSE NEIGHBOUR: 'it returns false'. Refute it at one input. -/
def trianglePointsWrong : ChangeSpec := { name := "trianglePoints", fn := fun _ => fun
  | [d1, d2] => { results := [.lit (.bool false)], args := [d1, d2] }
  | _ => none }
def TrianglePointsWrongFalsely : Prop := trianglePointsRow.holds Tryz.pinned (OpenSpec.ofChange trianglePointsWrong)

/-- 'fretsawlaw13.TriangleBegins': WHATEVER THE INPUT: true; the input reads as it did. -/
def triangleBeginsSpec : ChangeSpec := { name := "triangleBegins", fn := fun _ => fun
  | [d1, d2, d3] => { results := [.lit (.bool true)], args := [d1, d2, d3] }
  | _ => none }
def triangleBeginsRow : OpenClaim := { program := "ythbofdolalagjaagreat", sum := "b7ad4d9c6a294f7b1a38d6f6a188ddcaf8faccc564b8d8c2a0908c6c8acfa422", func := "fretsaw/fretsawlaw13.TriangleBegins", spec := "triangleBegins", unfollowed := true, recurses := true, plainKeys := false, apart := false }
def TriangleBeginsSaid : Prop := triangleBeginsRow.holds Tryz.pinned (OpenSpec.ofChange triangleBeginsSpec)

/-- ITS FALSE NEIGHBOUR: 'it returns false'. Refute it at one input. -/
def triangleBeginsWrong : ChangeSpec := { name := "triangleBegins", fn := fun _ => fun
  | [d1, d2, d3] => { results := [.lit (.bool false)], args := [d1, d2, d3] }
  | _ => none }
def TriangleBeginsWrongFalsely : Prop := triangleBeginsRow.holds Tryz.pinned (OpenSpec.ofChange triangleBeginsWrong)

/-- 'fretsawlaw14.ConvexPoints': WHATEVER THE INPUT: true; the input reads as it did. -/
def convexPointsSpec : ChangeSpec := { name := "convexPoints", fn := fun _ => fun
  | [d1, d2] => { results := [.lit (.bool true)], args := [d1, d2] }
  | _ => none }
def convexPointsRow : OpenClaim := { program := "ythbofdolalagjaagreat", sum := "b7ad4d9c6a294f7b1a38d6f6a188ddcaf8faccc564b8d8c2a0908c6c8acfa422", func := "fretsaw/fretsawlaw14.ConvexPoints", spec := "convexPoints", unfollowed := true, recurses := true, plainKeys := false, apart := false }
def ConvexPointsSaid : Prop := convexPointsRow.holds Tryz.pinned (OpenSpec.ofChange convexPointsSpec)

/-- ITS FALSE NEIGHBOUR: 'it returns false'. Refute it at one input. -/
def convexPointsWrong : ChangeSpec := { name := "convexPoints", fn := fun _ => fun
  | [d1, d2] => { results := [.lit (.bool false)], args := [d1, d2] }
  | _ => none }
def ConvexPointsWrongFalsely : Prop := convexPointsRow.holds Tryz.pinned (OpenSpec.ofChange convexPointsWrong)

/-- 'fretsawlaw14.ConvexShapes': WHATEVER THE INPUT: true; the input reads as it did. -/
def convexShapesSpec : ChangeSpec := { name := "convexShapes", fn := fun _ => fun
  | [d1, d2] => { results := [.lit (.bool true)], args := [d1, d2] }
  | _ => none }
def convexShapesRow : OpenClaim := { program := "ythbofdolalagjaagreat", sum := "b7ad4d9c6a294f7b1a38d6f6a188ddcaf8faccc564b8d8c2a0908c6c8acfa422", func := "fretsaw/fretsawlaw14.ConvexShapes", spec := "convexShapes", unfollowed := true, recurses := true, plainKeys := false, apart := false }
def ConvexShapesSaid : Prop := convexShapesRow.holds Tryz.pinned (OpenSpec.ofChange convexShapesSpec)

/-- ITS FALSE NEIGHBOUR: 'it returns false'. Refute it at one input. -/
def convexShapesWrong : ChangeSpec := { name := "convexShapes", fn := fun _ => fun
  | [d1, d2] => { results := [.lit (.bool false)], args := [d1, d2] }
  | _ => none }
def ConvexShapesWrongFalsely : Prop := convexShapesRow.holds Tryz.pinned (OpenSpec.ofChange convexShapesWrong)

/-- 'fretsawlaw14.ConvexMoves': WHATEVER THE INPUT: true; the input reads as it did. -/
def convexMovesSpec : ChangeSpec := { name := "convexMoves", fn := fun _ => fun
  | [d1, d2] => { results := [.lit (.bool true)], args := [d1, d2] }
  | _ => none }
def convexMovesRow : OpenClaim := { program := "ythbofdolalagjaagreat", sum := "b7ad4d9c6a294f7b1a38d6f6a188ddcaf8faccc564b8d8c2a0908c6c8acfa422", func := "fretsaw/fretsawlaw14.ConvexMoves", spec := "convexMoves", unfollowed := true, recurses := true, plainKeys := false, apart := false }
def ConvexMovesSaid : Prop := convexMovesRow.holds Tryz.pinned (OpenSpec.ofChange convexMovesSpec)

/-- ITS FALSE NEIGHBOUR: 'it returns false'. Refute it at one input. -/
def convexMovesWrong : ChangeSpec := { name := "convexMoves", fn := fun _ => fun
  | [d1, d2] => { results := [.lit (.bool false)], args := [d1, d2] }
  | _ => none }
def ConvexMovesWrongFalsely : Prop := convexMovesRow.holds Tryz.pinned (OpenSpec.ofChange convexMovesWrong)

/-- 'fretsawlaw14.ConvexPieces': WHATEVER THE INPUT: true; the input reads as it did. -/
def convexPiecesSpec : ChangeSpec := { name := "convexPieces", fn := fun _ => fun
  | [d] => { results := [.lit (.bool true)], args := [d] }
  | _ => none }
def convexPiecesRow : OpenClaim := { program := "ythbofdolalagjaagreat", sum := "b7ad4d9c6a294f7b1a38d6f6a188ddcaf8faccc564b8d8c2a0908c6c8acfa422", func := "fretsaw/fretsawlaw14.ConvexPieces", spec := "convexPieces", unfollowed := true, recurses := true, plainKeys := false, apart := false }
def ConvexPiecesSaid : Prop := convexPiecesRow.holds Tryz.pinned (OpenSpec.ofChange convexPiecesSpec)

/-- ITS FALSE NEIGHBOUR: 'it returns false'. Refute it at one input. -/
def convexPiecesWrong : ChangeSpec := { name := "convexPieces", fn := fun _ => fun
  | [d] => { results := [.lit (.bool false)], args := [d] }
  | _ => none }
def ConvexPiecesWrongFalsely : Prop := convexPiecesRow.holds Tryz.pinned (OpenSpec.ofChange convexPiecesWrong)

/-- 'fretsawlaw14.ConvexDissects': WHATEVER THE INPUT: true; the input reads as it did. -/
def convexDissectsSpec : ChangeSpec := { name := "convexDissects", fn := fun _ => fun
  | [d] => { results := [.lit (.bool true)], args := [d] }
  | _ => none }
def convexDissectsRow : OpenClaim := { program := "ythbofdolalagjaagreat", sum := "b7ad4d9c6a294f7b1a38d6f6a188ddcaf8faccc564b8d8c2a0908c6c8acfa422", func := "fretsaw/fretsawlaw14.ConvexDissects", spec := "convexDissects", unfollowed := true, recurses := true, plainKeys := false, apart := false }
def ConvexDissectsSaid : Prop := convexDissectsRow.holds Tryz.pinned (OpenSpec.ofChange convexDissectsSpec)

/-- ITS FALSE NEIGHBOUR: 'it returns false'. Refute it at one input. -/
def convexDissectsWrong : ChangeSpec := { name := "convexDissects", fn := fun _ => fun
  | [d] => { results := [.lit (.bool false)], args := [d] }
  | _ => none }
def ConvexDissectsWrongFalsely : Prop := convexDissectsRow.holds Tryz.pinned (OpenSpec.ofChange convexDissectsWrong)

/- THE SECOND FORM. 'bulk': how many values and letters a reading holds, each counted each time it is reached (what is shared counts as often as it is met; a slice's spare places count too). A statement '..UptoSaid' is the law's where the arguments, and the package variables that the reading takes, are together of bulk at most 1048576: NARROWER than '..Said'. Prove '..Said' where nothing that the law and all that it calls make is longer than what came in: it says more and counts as full. Else prove '..UptoSaid'. A law counts once. -/
mutual
def uptoBulk {H : Type} : DataW H → Nat
  | .lit (.string bytes) => bytes.length + 1
  | .lit _ => 1
  | .nil => 1
  | .ptr d => uptoBulk d + 1
  | .slice elems spare => uptoBulkAll elems + uptoBulkAll spare + 1
  | .agg parts => uptoBulkAll parts + 1
  | .iface _ d => uptoBulk d + 1
  | .map entries => uptoBulkEntries entries + 1
  | .held _ => 1
def uptoBulkAll {H : Type} : List (DataW H) → Nat
  | [] => 0
  | d :: r => uptoBulk d + uptoBulkAll r
def uptoBulkEntries {H : Type} : List (Lit × DataW H) → Nat
  | [] => 0
  | x :: r => uptoBulkEntry x + uptoBulkEntries r
def uptoBulkEntry {H : Type} : Lit × DataW H → Nat
  | (.string bytes, d) => bytes.length + uptoBulk d + 1
  | (_, d) => uptoBulk d + 1
 end
def uptoSmall : (H : Type) → List (DataW H) → Bool := fun _ ds => decide (uptoBulkAll ds ≤ 1048576)
def OpenSpec.upto (s : _root_.Go.ChangeSpec) : _root_.Go.OpenSpec := { _root_.Go.OpenSpec.ofChange s with cond := some uptoSmall }

/-- 'fretsawlaw13.TriangleLists', WHERE WHAT IT READS IS OF BULK AT MOST 1048576: true; the input reads as it did. -/
def triangleListsUptoRow : OpenClaim := { program := "ythbofdolalagjaagreat", sum := "b7ad4d9c6a294f7b1a38d6f6a188ddcaf8faccc564b8d8c2a0908c6c8acfa422", func := "fretsaw/fretsawlaw13.TriangleLists", spec := "triangleLists", unfollowed := true, recurses := true, plainKeys := false, apart := false, narrowed := true }
def TriangleListsUptoSaid : Prop := triangleListsUptoRow.holds Tryz.pinned (OpenSpec.upto triangleListsSpec)

/-- 'fretsawlaw13.TriangleCheck', WHERE WHAT IT READS IS OF BULK AT MOST 1048576: true; the input reads as it did. -/
def triangleCheckUptoRow : OpenClaim := { program := "ythbofdolalagjaagreat", sum := "b7ad4d9c6a294f7b1a38d6f6a188ddcaf8faccc564b8d8c2a0908c6c8acfa422", func := "fretsaw/fretsawlaw13.TriangleCheck", spec := "triangleCheck", unfollowed := true, recurses := true, plainKeys := false, apart := false, narrowed := true }
def TriangleCheckUptoSaid : Prop := triangleCheckUptoRow.holds Tryz.pinned (OpenSpec.upto triangleCheckSpec)

/-- 'fretsawlaw13.TriangleCounts', WHERE WHAT IT READS IS OF BULK AT MOST 1048576: true; the input reads as it did. -/
def triangleCountsUptoRow : OpenClaim := { program := "ythbofdolalagjaagreat", sum := "b7ad4d9c6a294f7b1a38d6f6a188ddcaf8faccc564b8d8c2a0908c6c8acfa422", func := "fretsaw/fretsawlaw13.TriangleCounts", spec := "triangleCounts", unfollowed := true, recurses := true, plainKeys := false, apart := false, narrowed := true }
def TriangleCountsUptoSaid : Prop := triangleCountsUptoRow.holds Tryz.pinned (OpenSpec.upto triangleCountsSpec)

/-- 'fretsawlaw13.TriangleMaximal', WHERE WHAT IT READS IS OF BULK AT MOST 1048576: true; the input reads as it did. -/
def triangleMaximalUptoRow : OpenClaim := { program := "ythbofdolalagjaagreat", sum := "b7ad4d9c6a294f7b1a38d6f6a188ddcaf8faccc564b8d8c2a0908c6c8acfa422", func := "fretsaw/fretsawlaw13.TriangleMaximal", spec := "triangleMaximal", unfollowed := true, recurses := true, plainKeys := false, apart := false, narrowed := true }
def TriangleMaximalUptoSaid : Prop := triangleMaximalUptoRow.holds Tryz.pinned (OpenSpec.upto triangleMaximalSpec)

/-- 'fretsawlaw13.TriangleSides', WHERE WHAT IT READS IS OF BULK AT MOST 1048576: true; the input reads as it did. -/
def triangleSidesUptoRow : OpenClaim := { program := "ythbofdolalagjaagreat", sum := "b7ad4d9c6a294f7b1a38d6f6a188ddcaf8faccc564b8d8c2a0908c6c8acfa422", func := "fretsaw/fretsawlaw13.TriangleSides", spec := "triangleSides", unfollowed := true, recurses := true, plainKeys := false, apart := false, narrowed := true }
def TriangleSidesUptoSaid : Prop := triangleSidesUptoRow.holds Tryz.pinned (OpenSpec.upto triangleSidesSpec)

/-- 'fretsawlaw13.TrianglePoints', WHERE WHAT IT READS IS OF BULK AT MOST 1048576: true; the input reads as it did. -/
def trianglePointsUptoRow : OpenClaim := { program := "ythbofdolalagjaagreat", sum := "b7ad4d9c6a294f7b1a38d6f6a188ddcaf8faccc564b8d8c2a0908c6c8acfa422", func := "fretsaw/fretsawlaw13.TrianglePoints", spec := "trianglePoints", unfollowed := true, recurses := true, plainKeys := false, apart := false, narrowed := true }
def TrianglePointsUptoSaid : Prop := trianglePointsUptoRow.holds Tryz.pinned (OpenSpec.upto trianglePointsSpec)

/-- 'fretsawlaw13.TriangleBegins', WHERE WHAT IT READS IS OF BULK AT MOST 1048576: true; the input reads as it did. -/
def triangleBeginsUptoRow : OpenClaim := { program := "ythbofdolalagjaagreat", sum := "b7ad4d9c6a294f7b1a38d6f6a188ddcaf8faccc564b8d8c2a0908c6c8acfa422", func := "fretsaw/fretsawlaw13.TriangleBegins", spec := "triangleBegins", unfollowed := true, recurses := true, plainKeys := false, apart := false, narrowed := true }
def TriangleBeginsUptoSaid : Prop := triangleBeginsUptoRow.holds Tryz.pinned (OpenSpec.upto triangleBeginsSpec)

/-- 'fretsawlaw14.ConvexPoints', WHERE WHAT IT READS IS OF BULK AT MOST 1048576: true; the input reads as it did. -/
def convexPointsUptoRow : OpenClaim := { program := "ythbofdolalagjaagreat", sum := "b7ad4d9c6a294f7b1a38d6f6a188ddcaf8faccc564b8d8c2a0908c6c8acfa422", func := "fretsaw/fretsawlaw14.ConvexPoints", spec := "convexPoints", unfollowed := true, recurses := true, plainKeys := false, apart := false, narrowed := true }
def ConvexPointsUptoSaid : Prop := convexPointsUptoRow.holds Tryz.pinned (OpenSpec.upto convexPointsSpec)

/-- 'fretsawlaw14.ConvexShapes', WHERE WHAT IT READS IS OF BULK AT MOST 1048576: true; the input reads as it did. -/
def convexShapesUptoRow : OpenClaim := { program := "ythbofdolalagjaagreat", sum := "b7ad4d9c6a294f7b1a38d6f6a188ddcaf8faccc564b8d8c2a0908c6c8acfa422", func := "fretsaw/fretsawlaw14.ConvexShapes", spec := "convexShapes", unfollowed := true, recurses := true, plainKeys := false, apart := false, narrowed := true }
def ConvexShapesUptoSaid : Prop := convexShapesUptoRow.holds Tryz.pinned (OpenSpec.upto convexShapesSpec)

/-- 'fretsawlaw14.ConvexMoves', WHERE WHAT IT READS IS OF BULK AT MOST 1048576: true; the input reads as it did. -/
def convexMovesUptoRow : OpenClaim := { program := "ythbofdolalagjaagreat", sum := "b7ad4d9c6a294f7b1a38d6f6a188ddcaf8faccc564b8d8c2a0908c6c8acfa422", func := "fretsaw/fretsawlaw14.ConvexMoves", spec := "convexMoves", unfollowed := true, recurses := true, plainKeys := false, apart := false, narrowed := true }
def ConvexMovesUptoSaid : Prop := convexMovesUptoRow.holds Tryz.pinned (OpenSpec.upto convexMovesSpec)

/-- 'fretsawlaw14.ConvexPieces', WHERE WHAT IT READS IS OF BULK AT MOST 1048576: true; the input reads as it did. -/
def convexPiecesUptoRow : OpenClaim := { program := "ythbofdolalagjaagreat", sum := "b7ad4d9c6a294f7b1a38d6f6a188ddcaf8faccc564b8d8c2a0908c6c8acfa422", func := "fretsaw/fretsawlaw14.ConvexPieces", spec := "convexPieces", unfollowed := true, recurses := true, plainKeys := false, apart := false, narrowed := true }
def ConvexPiecesUptoSaid : Prop := convexPiecesUptoRow.holds Tryz.pinned (OpenSpec.upto convexPiecesSpec)

/-- 'fretsawlaw14.ConvexDissects', WHERE WHAT IT READS IS OF BULK AT MOST 1048576: true; the input reads as it did. -/
def convexDissectsUptoRow : OpenClaim := { program := "ythbofdolalagjaagreat", sum := "b7ad4d9c6a294f7b1a38d6f6a188ddcaf8faccc564b8d8c2a0908c6c8acfa422", func := "fretsaw/fretsawlaw14.ConvexDissects", spec := "convexDissects", unfollowed := true, recurses := true, plainKeys := false, apart := false, narrowed := true }
def ConvexDissectsUptoSaid : Prop := convexDissectsUptoRow.holds Tryz.pinned (OpenSpec.upto convexDissectsSpec)

end Rows
end Go.Proofs.YthbofdolalagjaaGreat
