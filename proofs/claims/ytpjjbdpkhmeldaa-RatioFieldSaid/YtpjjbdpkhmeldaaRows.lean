/-
  No cell of these rows narrows 'for every input' (looked for: loops, veiled, ifaces, maps, wideKeys, modest, calm, conditions, laid).
  DERIVED. THE GIVEN ROWS OF THIS SEAT. 6 by the template 'for every input the law returns true; each argument reads behind the call as it read before'; 0 by the template 'total and deterministic' (their statements: YtpjjbdpkhmeldaaTotals.lean).
  GIVEN WITH THE SEED: the statements are not yours to turn. If you find one false, say at which input.
  Laid BY PROGRAM, IN A SANDBOX (cutbox-rows.mjs): the forced cells as the released guide's own fill.sh prints them over the translation f5f4d557cfc826f2… (all of the seat's roots in one cut). By AI agents, Wed Nov 11 2026. No macro, syntax, notation, axiom, sorry.
-/
import Derived.Test.YtpjjbdpkhmeldaaChecked
import GoSem.Claim
import GoSem.ClaimJoined
import GoSem.ClaimMapViews
import Derived.JoinedTies
import Derived.KernelRfl
namespace Go.Proofs.Ytpjjbdpkhmeldaa
/- THE CELL 'sum', in the pinned program and in every row, IS THE sha256 OF THE DUMP (.gsa) THAT YtpjjbdpkhmeldaaProg.lean LOADS. Nothing in Lean hashes anything: it is a label: what it is worth is what the hold of that sum in a sandbox is worth. -/
noncomputable def Try.pinned : Pinned := { name := "ytpjjbdpkhmeldaa", sum := "f5f4d557cfc826f2c556ee645e01e7a1af9c23424b7c6853b195b95e5f9c0e32", checked := Try.checked }
namespace Rows
def none {H : Type} : Left H := { results := [], args := [] }

/-- 'fretsawlaw05.RatioSums': WHATEVER THE INPUT: true; the input reads as it did. -/
def ratioSumsSpec : ChangeSpec := { name := "ratioSums", fn := fun _ => fun
  | [d] => { results := [.lit (.bool true)], args := [d] }
  | _ => none }
def ratioSumsRow : OpenClaim := { program := "ytpjjbdpkhmeldaa", sum := "f5f4d557cfc826f2c556ee645e01e7a1af9c23424b7c6853b195b95e5f9c0e32", func := "fretsaw/fretsawlaw05.RatioSums", spec := "ratioSums", apart := false }
def RatioSumsSaid : Prop := ratioSumsRow.holds Try.pinned (OpenSpec.ofChange ratioSumsSpec)

/-- ITS FALSE NEIGHBOUR: 'it returns false'. Refute it at one input. -/
def ratioSumsWrong : ChangeSpec := { name := "ratioSums", fn := fun _ => fun
  | [d] => { results := [.lit (.bool false)], args := [d] }
  | _ => none }
def RatioSumsWrongFalsely : Prop := ratioSumsRow.holds Try.pinned (OpenSpec.ofChange ratioSumsWrong)

/-- 'fretsawlaw05.RatioOps': WHATEVER THE INPUT: true; the input reads as it did. -/
def ratioOpsSpec : ChangeSpec := { name := "ratioOps", fn := fun _ => fun
  | [d1, d2] => { results := [.lit (.bool true)], args := [d1, d2] }
  | _ => none }
def ratioOpsRow : OpenClaim := { program := "ytpjjbdpkhmeldaa", sum := "f5f4d557cfc826f2c556ee645e01e7a1af9c23424b7c6853b195b95e5f9c0e32", func := "fretsaw/fretsawlaw05.RatioOps", spec := "ratioOps", apart := false }
def RatioOpsSaid : Prop := ratioOpsRow.holds Try.pinned (OpenSpec.ofChange ratioOpsSpec)

/-- ITS FALSE NEIGHBOUR: 'it returns false'. Refute it at one input. -/
def ratioOpsWrong : ChangeSpec := { name := "ratioOps", fn := fun _ => fun
  | [d1, d2] => { results := [.lit (.bool false)], args := [d1, d2] }
  | _ => none }
def RatioOpsWrongFalsely : Prop := ratioOpsRow.holds Try.pinned (OpenSpec.ofChange ratioOpsWrong)

/-- 'fretsawlaw05.RatioField': WHATEVER THE INPUT: true; the input reads as it did. -/
def ratioFieldSpec : ChangeSpec := { name := "ratioField", fn := fun _ => fun
  | [d1, d2, d3] => { results := [.lit (.bool true)], args := [d1, d2, d3] }
  | _ => none }
def ratioFieldRow : OpenClaim := { program := "ytpjjbdpkhmeldaa", sum := "f5f4d557cfc826f2c556ee645e01e7a1af9c23424b7c6853b195b95e5f9c0e32", func := "fretsaw/fretsawlaw05.RatioField", spec := "ratioField", apart := false }
def RatioFieldSaid : Prop := ratioFieldRow.holds Try.pinned (OpenSpec.ofChange ratioFieldSpec)

/-- ITS FALSE NEIGHBOUR: 'it returns false'. Refute it at one input. -/
def ratioFieldWrong : ChangeSpec := { name := "ratioField", fn := fun _ => fun
  | [d1, d2, d3] => { results := [.lit (.bool false)], args := [d1, d2, d3] }
  | _ => none }
def RatioFieldWrongFalsely : Prop := ratioFieldRow.holds Try.pinned (OpenSpec.ofChange ratioFieldWrong)

/-- 'fretsawlaw05.RatioRounds': WHATEVER THE INPUT: true; the input reads as it did. -/
def ratioRoundsSpec : ChangeSpec := { name := "ratioRounds", fn := fun _ => fun
  | [d] => { results := [.lit (.bool true)], args := [d] }
  | _ => none }
def ratioRoundsRow : OpenClaim := { program := "ytpjjbdpkhmeldaa", sum := "f5f4d557cfc826f2c556ee645e01e7a1af9c23424b7c6853b195b95e5f9c0e32", func := "fretsaw/fretsawlaw05.RatioRounds", spec := "ratioRounds", apart := false }
def RatioRoundsSaid : Prop := ratioRoundsRow.holds Try.pinned (OpenSpec.ofChange ratioRoundsSpec)

/-- ITS FALSE NEIGHBOUR: 'it returns false'. Refute it at one input. -/
def ratioRoundsWrong : ChangeSpec := { name := "ratioRounds", fn := fun _ => fun
  | [d] => { results := [.lit (.bool false)], args := [d] }
  | _ => none }
def RatioRoundsWrongFalsely : Prop := ratioRoundsRow.holds Try.pinned (OpenSpec.ofChange ratioRoundsWrong)

/-- 'fretsawlaw05.RatioForms': WHATEVER THE INPUT: true; the input reads as it did. -/
def ratioFormsSpec : ChangeSpec := { name := "ratioForms", fn := fun _ => fun
  | [d1, d2, d3] => { results := [.lit (.bool true)], args := [d1, d2, d3] }
  | _ => none }
def ratioFormsRow : OpenClaim := { program := "ytpjjbdpkhmeldaa", sum := "f5f4d557cfc826f2c556ee645e01e7a1af9c23424b7c6853b195b95e5f9c0e32", func := "fretsaw/fretsawlaw05.RatioForms", spec := "ratioForms", apart := false }
def RatioFormsSaid : Prop := ratioFormsRow.holds Try.pinned (OpenSpec.ofChange ratioFormsSpec)

/-- ITS FALSE NEIGHBOUR: 'it returns false'. Refute it at one input. -/
def ratioFormsWrong : ChangeSpec := { name := "ratioForms", fn := fun _ => fun
  | [d1, d2, d3] => { results := [.lit (.bool false)], args := [d1, d2, d3] }
  | _ => none }
def RatioFormsWrongFalsely : Prop := ratioFormsRow.holds Try.pinned (OpenSpec.ofChange ratioFormsWrong)

/-- 'fretsawlaw05.RatioOrder': WHATEVER THE INPUT: true; the input reads as it did. -/
def ratioOrderSpec : ChangeSpec := { name := "ratioOrder", fn := fun _ => fun
  | [d1, d2, d3] => { results := [.lit (.bool true)], args := [d1, d2, d3] }
  | _ => none }
def ratioOrderRow : OpenClaim := { program := "ytpjjbdpkhmeldaa", sum := "f5f4d557cfc826f2c556ee645e01e7a1af9c23424b7c6853b195b95e5f9c0e32", func := "fretsaw/fretsawlaw05.RatioOrder", spec := "ratioOrder", apart := false }
def RatioOrderSaid : Prop := ratioOrderRow.holds Try.pinned (OpenSpec.ofChange ratioOrderSpec)

/-- ITS FALSE NEIGHBOUR: 'it returns false'. Refute it at one input. -/
def ratioOrderWrong : ChangeSpec := { name := "ratioOrder", fn := fun _ => fun
  | [d1, d2, d3] => { results := [.lit (.bool false)], args := [d1, d2, d3] }
  | _ => none }
def RatioOrderWrongFalsely : Prop := ratioOrderRow.holds Try.pinned (OpenSpec.ofChange ratioOrderWrong)

/- THE SECOND FORM. 'bulk': how many values and letters a reading holds, each counted each time it is reached (what is shared counts as often as it is met; a slice's spare places count too). A statement '..UptoSaid' is the law's where the arguments, and the package variables that the reading takes, are together of bulk at most 1048576: NARROWER than '..Said'. Prove '..Said' where nothing that the law and all that it calls make is longer than what came in: it says more and counts as full. Else prove '..UptoSaid'. A law counts once. -/
mutual
def uptoBulk {H : Type} : DataW H → Nat
  | .lit (.string bytes) => bytes.length + 1
  | .lit _ => 1
  | .nil => 1
  | .ptr d => uptoBulk d + 1
  | .slice elems spare => uptoBulkAll elems + uptoBulkAll spare + 1
  | .agg parts => uptoBulkAll parts + 1
  | .iface _ d => uptoBulk d + 1
  | .map entries => uptoBulkEntries entries + 1
  | .held _ => 1
def uptoBulkAll {H : Type} : List (DataW H) → Nat
  | [] => 0
  | d :: r => uptoBulk d + uptoBulkAll r
def uptoBulkEntries {H : Type} : List (Lit × DataW H) → Nat
  | [] => 0
  | x :: r => uptoBulkEntry x + uptoBulkEntries r
def uptoBulkEntry {H : Type} : Lit × DataW H → Nat
  | (.string bytes, d) => bytes.length + uptoBulk d + 1
  | (_, d) => uptoBulk d + 1
 end
def uptoSmall : (H : Type) → List (DataW H) → Bool := fun _ ds => decide (uptoBulkAll ds ≤ 1048576)
def OpenSpec.upto (s : _root_.Go.ChangeSpec) : _root_.Go.OpenSpec := { _root_.Go.OpenSpec.ofChange s with cond := some uptoSmall }

/-- 'fretsawlaw05.RatioSums', WHERE WHAT IT READS IS OF BULK AT MOST 1048576: true; the input reads as it did. -/
def ratioSumsUptoRow : OpenClaim := { program := "ytpjjbdpkhmeldaa", sum := "f5f4d557cfc826f2c556ee645e01e7a1af9c23424b7c6853b195b95e5f9c0e32", func := "fretsaw/fretsawlaw05.RatioSums", spec := "ratioSums", apart := false, narrowed := true }
def RatioSumsUptoSaid : Prop := ratioSumsUptoRow.holds Try.pinned (OpenSpec.upto ratioSumsSpec)

/-- 'fretsawlaw05.RatioOps', WHERE WHAT IT READS IS OF BULK AT MOST 1048576: true; the input reads as it did. -/
def ratioOpsUptoRow : OpenClaim := { program := "ytpjjbdpkhmeldaa", sum := "f5f4d557cfc826f2c556ee645e01e7a1af9c23424b7c6853b195b95e5f9c0e32", func := "fretsaw/fretsawlaw05.RatioOps", spec := "ratioOps", apart := false, narrowed := true }
def RatioOpsUptoSaid : Prop := ratioOpsUptoRow.holds Try.pinned (OpenSpec.upto ratioOpsSpec)

/-- 'fretsawlaw05.RatioField', WHERE WHAT IT READS IS OF BULK AT MOST 1048576: true; the input reads as it did. -/
def ratioFieldUptoRow : OpenClaim := { program := "ytpjjbdpkhmeldaa", sum := "f5f4d557cfc826f2c556ee645e01e7a1af9c23424b7c6853b195b95e5f9c0e32", func := "fretsaw/fretsawlaw05.RatioField", spec := "ratioField", apart := false, narrowed := true }
def RatioFieldUptoSaid : Prop := ratioFieldUptoRow.holds Try.pinned (OpenSpec.upto ratioFieldSpec)

/-- 'fretsawlaw05.RatioRounds', WHERE WHAT IT READS IS OF BULK AT MOST 1048576: true; the input reads as it did. -/
def ratioRoundsUptoRow : OpenClaim := { program := "ytpjjbdpkhmeldaa", sum := "f5f4d557cfc826f2c556ee645e01e7a1af9c23424b7c6853b195b95e5f9c0e32", func := "fretsaw/fretsawlaw05.RatioRounds", spec := "ratioRounds", apart := false, narrowed := true }
def RatioRoundsUptoSaid : Prop := ratioRoundsUptoRow.holds Try.pinned (OpenSpec.upto ratioRoundsSpec)

/-- 'fretsawlaw05.RatioForms', WHERE WHAT IT READS IS OF BULK AT MOST 1048576: true; the input reads as it did. -/
def ratioFormsUptoRow : OpenClaim := { program := "ytpjjbdpkhmeldaa", sum := "f5f4d557cfc826f2c556ee645e01e7a1af9c23424b7c6853b195b95e5f9c0e32", func := "fretsaw/fretsawlaw05.RatioForms", spec := "ratioForms", apart := false, narrowed := true }
def RatioFormsUptoSaid : Prop := ratioFormsUptoRow.holds Try.pinned (OpenSpec.upto ratioFormsSpec)

/-- 'fretsawlaw05.RatioOrder', WHERE WHAT IT READS IS OF BULK AT MOST 1048576: true; the input reads as it did. -/
def ratioOrderUptoRow : OpenClaim := { program := "ytpjjbdpkhmeldaa", sum := "f5f4d557cfc826f2c556ee645e01e7a1af9c23424b7c6853b195b95e5f9c0e32", func := "fretsaw/fretsawlaw05.RatioOrder", spec := "ratioOrder", apart := false, narrowed := true }
def RatioOrderUptoSaid : Prop := ratioOrderUptoRow.holds Try.pinned (OpenSpec.upto ratioOrderSpec)

end Rows
end Go.Proofs.Ytpjjbdpkhmeldaa
