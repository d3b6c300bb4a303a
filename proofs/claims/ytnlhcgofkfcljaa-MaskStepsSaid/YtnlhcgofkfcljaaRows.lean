/-
  No cell of these rows narrows 'for every input' (looked for: loops, veiled, ifaces, maps, wideKeys, modest, calm, conditions, laid).
  DERIVED. THE GIVEN ROWS OF THIS SEAT. 3 by the template 'for every input the law returns true; each argument reads behind the call as it read before'; 0 by the template 'total and deterministic' (their statements: YtnlhcgofkfcljaaTotals.lean).
  GIVEN WITH THE SEED: the statements are not yours to turn. If you find one false, say at which input.
  Laid BY PROGRAM, IN A SANDBOX (cutbox-rows.mjs): the forced cells as the released guide's own fill.sh prints them over the translation c2eadbc608ed8db3… (all of the seat's roots in one cut). By AI agents, Wed Nov 11 2026. No macro, syntax, notation, axiom, sorry.
-/
import Derived.Test.YtnlhcgofkfcljaaChecked
import GoSem.Claim
import GoSem.ClaimJoined
import GoSem.ClaimMapViews
import Derived.JoinedTies
import Derived.KernelRfl
namespace Go.Proofs.Ytnlhcgofkfcljaa
/- THE CELL 'sum', in the pinned program and in every row, IS THE sha256 OF THE DUMP (.gsa) THAT YtnlhcgofkfcljaaProg.lean LOADS. Nothing in Lean hashes anything: it is a label: what it is worth is what the hold of that sum in a sandbox is worth. -/
noncomputable def Try.pinned : Pinned := { name := "ytnlhcgofkfcljaa", sum := "c2eadbc608ed8db3fd99d42ebd26d62600465d4ff979d28b24f7f5b8c39d55d1", checked := Try.checked }
namespace Rows
def none {H : Type} : Left H := { results := [], args := [] }

/-- 'sidebandlaw11.MaskRules': WHATEVER THE INPUT: true; the input reads as it did. -/
def maskRulesSpec : ChangeSpec := { name := "maskRules", fn := fun _ => fun
  | [d1, d2, d3] => { results := [.lit (.bool true)], args := [d1, d2, d3] }
  | _ => none }
def maskRulesRow : OpenClaim := { program := "ytnlhcgofkfcljaa", sum := "c2eadbc608ed8db3fd99d42ebd26d62600465d4ff979d28b24f7f5b8c39d55d1", func := "sideband/sidebandlaw11.MaskRules", spec := "maskRules", apart := false }
def MaskRulesSaid : Prop := maskRulesRow.holds Try.pinned (OpenSpec.ofChange maskRulesSpec)

/-- ITS FALSE NEIGHBOUR: 'it returns false'. Refute it at one input. -/
def maskRulesWrong : ChangeSpec := { name := "maskRules", fn := fun _ => fun
  | [d1, d2, d3] => { results := [.lit (.bool false)], args := [d1, d2, d3] }
  | _ => none }
def MaskRulesWrongFalsely : Prop := maskRulesRow.holds Try.pinned (OpenSpec.ofChange maskRulesWrong)

/-- 'sidebandlaw11.MaskArgs': WHATEVER THE INPUT: true; the input reads as it did. -/
def maskArgsSpec : ChangeSpec := { name := "maskArgs", fn := fun _ => fun
  | [d1, d2, d3] => { results := [.lit (.bool true)], args := [d1, d2, d3] }
  | _ => none }
def maskArgsRow : OpenClaim := { program := "ytnlhcgofkfcljaa", sum := "c2eadbc608ed8db3fd99d42ebd26d62600465d4ff979d28b24f7f5b8c39d55d1", func := "sideband/sidebandlaw11.MaskArgs", spec := "maskArgs", apart := false }
def MaskArgsSaid : Prop := maskArgsRow.holds Try.pinned (OpenSpec.ofChange maskArgsSpec)

/-- ITS FALSE NEIGHBOUR: 'it returns false'. Refute it at one input. -/
def maskArgsWrong : ChangeSpec := { name := "maskArgs", fn := fun _ => fun
  | [d1, d2, d3] => { results := [.lit (.bool false)], args := [d1, d2, d3] }
  | _ => none }
def MaskArgsWrongFalsely : Prop := maskArgsRow.holds Try.pinned (OpenSpec.ofChange maskArgsWrong)

/-- 'sidebandlaw11.MaskSteps': WHATEVER THE INPUT: true; the input reads as it did. -/
def maskStepsSpec : ChangeSpec := { name := "maskSteps", fn := fun _ => fun
  | [d1, d2, d3] => { results := [.lit (.bool true)], args := [d1, d2, d3] }
  | _ => none }
def maskStepsRow : OpenClaim := { program := "ytnlhcgofkfcljaa", sum := "c2eadbc608ed8db3fd99d42ebd26d62600465d4ff979d28b24f7f5b8c39d55d1", func := "sideband/sidebandlaw11.MaskSteps", spec := "maskSteps", apart := false }
def MaskStepsSaid : Prop := maskStepsRow.holds Try.pinned (OpenSpec.ofChange maskStepsSpec)

/-- ITS FALSE NEIGHBOUR: 'it returns false'. Refute it at one input. -/
def maskStepsWrong : ChangeSpec := { name := "maskSteps", fn := fun _ => fun
  | [d1, d2, d3] => { results := [.lit (.bool false)], args := [d1, d2, d3] }
  | _ => none }
def MaskStepsWrongFalsely : Prop := maskStepsRow.holds Try.pinned (OpenSpec.ofChange maskStepsWrong)

/- THE SECOND FORM. 'bulk': how many values and letters a reading holds, each counted each time it is reached (what is shared counts as often as it is met; a slice's spare places count too). A statement '..UptoSaid' is the law's where the arguments, and the package variables that the reading takes, are together of bulk at most 1048576: NARROWER than '..Said'. Prove '..Said' where nothing that the law and all that it calls make is longer than what came in: it says more and counts as full. Else prove '..UptoSaid'. A law counts once. -/
mutual
def uptoBulk {H : Type} : DataW H → Nat
  | .lit (.string bytes) => bytes.length + 1
  | .lit _ => 1
  | .nil => 1
  | .ptr d => uptoBulk d + 1
  | .slice elems spare => uptoBulkAll elems + uptoBulkAll spare + 1
  | .agg parts => uptoBulkAll parts + 1
  | .iface _ d => uptoBulk d + 1
  | .map entries => uptoBulkEntries entries + 1
  | .held _ => 1
def uptoBulkAll {H : Type} : List (DataW H) → Nat
  | [] => 0
  | d :: r => uptoBulk d + uptoBulkAll r
def uptoBulkEntries {H : Type} : List (Lit × DataW H) → Nat
  | [] => 0
  | x :: r => uptoBulkEntry x + uptoBulkEntries r
def uptoBulkEntry {H : Type} : Lit × DataW H → Nat
  | (.string bytes, d) => bytes.length + uptoBulk d + 1
  | (_, d) => uptoBulk d + 1
 end
def uptoSmall : (H : Type) → List (DataW H) → Bool := fun _ ds => decide (uptoBulkAll ds ≤ 1048576)
def OpenSpec.upto (s : _root_.Go.ChangeSpec) : _root_.Go.OpenSpec := { _root_.Go.OpenSpec.ofChange s with cond := some uptoSmall }

/-- 'sidebandlaw11.MaskRules', WHERE WHAT IT READS IS OF BULK AT MOST 1048576: true; the input reads as it did. -/
def maskRulesUptoRow : OpenClaim := { program := "ytnlhcgofkfcljaa", sum := "c2eadbc608ed8db3fd99d42ebd26d62600465d4ff979d28b24f7f5b8c39d55d1", func := "sideband/sidebandlaw11.MaskRules", spec := "maskRules", apart := false, narrowed := true }
def MaskRulesUptoSaid : Prop := maskRulesUptoRow.holds Try.pinned (OpenSpec.upto maskRulesSpec)

/-- 'sidebandlaw11.MaskArgs', WHERE WHAT IT READS IS OF BULK AT MOST 1048576: true; the input reads as it did. -/
def maskArgsUptoRow : OpenClaim := { program := "ytnlhcgofkfcljaa", sum := "c2eadbc608ed8db3fd99d42ebd26d62600465d4ff979d28b24f7f5b8c39d55d1", func := "sideband/sidebandlaw11.MaskArgs", spec := "maskArgs", apart := false, narrowed := true }
def MaskArgsUptoSaid : Prop := maskArgsUptoRow.holds Try.pinned (OpenSpec.upto maskArgsSpec)

/-- 'sidebandlaw11.MaskSteps', WHERE WHAT IT READS IS OF BULK AT MOST 1048576: true; the input reads as it did. -/
def maskStepsUptoRow : OpenClaim := { program := "ytnlhcgofkfcljaa", sum := "c2eadbc608ed8db3fd99d42ebd26d62600465d4ff979d28b24f7f5b8c39d55d1", func := "sideband/sidebandlaw11.MaskSteps", spec := "maskSteps", apart := false, narrowed := true }
def MaskStepsUptoSaid : Prop := maskStepsUptoRow.holds Try.pinned (OpenSpec.upto maskStepsSpec)

end Rows
end Go.Proofs.Ytnlhcgofkfcljaa
