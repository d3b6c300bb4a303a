/-
  No cell of these rows narrows 'for every input' (looked for: loops, veiled, ifaces, maps, wideKeys, modest, calm, conditions, laid).
  DERIVED. THE GIVEN ROWS OF THIS SEAT. 3 by the template 'for every input the law returns true; each argument reads behind the call as it read before'; 0 by the template 'total and deterministic' (their statements: YtlcehlccaepncaaTotals.lean).
  GIVEN WITH THE SEED: the statements are not yours to turn. If you find one false, say at which input.
  Laid BY PROGRAM, IN A SANDBOX (cutbox-rows.mjs): the forced cells as the released guide's own fill.sh prints them over the translation be988feac58a2945… (all of the seat's roots in one cut). By AI agents, Wed Nov 11 2026. No macro, syntax, notation, axiom, sorry.
-/
import Derived.Test.YtlcehlccaepncaaChecked
import GoSem.Claim
import GoSem.ClaimJoined
import GoSem.ClaimMapViews
import Derived.JoinedTies
import Derived.KernelRfl
namespace Go.Proofs.Ytlcehlccaepncaa
/- THE CELL 'sum', in the pinned program and in every row, IS THE sha256 OF THE DUMP (.gsa) THAT YtlcehlccaepncaaProg.lean LOADS. Nothing in Lean hashes anything: it is a label: what it is worth is what the hold of that sum in a sandbox is worth. -/
noncomputable def Try.pinned : Pinned := { name := "ytlcehlccaepncaa", sum := "be988feac58a2945922e0cc4e8ba6ac23c14031547b3572e4a544c2f9e2d5191", checked := Try.checked }
namespace Rows
def none {H : Type} : Left H := { results := [], args := [] }

/-- 'sidebandlaw05.ModelLearns': WHATEVER THE INPUT: true; the input reads as it did. -/
def modelLearnsSpec : ChangeSpec := { name := "modelLearns", fn := fun _ => fun
  | [d1, d2, d3] => { results := [.lit (.bool true)], args := [d1, d2, d3] }
  | _ => none }
def modelLearnsRow : OpenClaim := { program := "ytlcehlccaepncaa", sum := "be988feac58a2945922e0cc4e8ba6ac23c14031547b3572e4a544c2f9e2d5191", func := "sideband/sidebandlaw05.ModelLearns", spec := "modelLearns", apart := false }
def ModelLearnsSaid : Prop := modelLearnsRow.holds Try.pinned (OpenSpec.ofChange modelLearnsSpec)

/-- ITS FALSE NEIGHBOUR: 'it returns false'. Refute it at one input. -/
def modelLearnsWrong : ChangeSpec := { name := "modelLearns", fn := fun _ => fun
  | [d1, d2, d3] => { results := [.lit (.bool false)], args := [d1, d2, d3] }
  | _ => none }
def ModelLearnsWrongFalsely : Prop := modelLearnsRow.holds Try.pinned (OpenSpec.ofChange modelLearnsWrong)

/-- 'sidebandlaw05.ModelNil': WHATEVER THE INPUT: true; the input reads as it did. -/
def modelNilSpec : ChangeSpec := { name := "modelNil", fn := fun _ => fun
  | [d1, d2] => { results := [.lit (.bool true)], args := [d1, d2] }
  | _ => none }
def modelNilRow : OpenClaim := { program := "ytlcehlccaepncaa", sum := "be988feac58a2945922e0cc4e8ba6ac23c14031547b3572e4a544c2f9e2d5191", func := "sideband/sidebandlaw05.ModelNil", spec := "modelNil", apart := false }
def ModelNilSaid : Prop := modelNilRow.holds Try.pinned (OpenSpec.ofChange modelNilSpec)

/-- ITS FALSE NEIGHBOUR: 'it returns false'. Refute it at one input. -/
def modelNilWrong : ChangeSpec := { name := "modelNil", fn := fun _ => fun
  | [d1, d2] => { results := [.lit (.bool false)], args := [d1, d2] }
  | _ => none }
def ModelNilWrongFalsely : Prop := modelNilRow.holds Try.pinned (OpenSpec.ofChange modelNilWrong)

/-- 'sidebandlaw05.ModelFixed': WHATEVER THE INPUT: true; the input reads as it did. -/
def modelFixedSpec : ChangeSpec := { name := "modelFixed", fn := fun _ => fun
  | [d1, d2, d3] => { results := [.lit (.bool true)], args := [d1, d2, d3] }
  | _ => none }
def modelFixedRow : OpenClaim := { program := "ytlcehlccaepncaa", sum := "be988feac58a2945922e0cc4e8ba6ac23c14031547b3572e4a544c2f9e2d5191", func := "sideband/sidebandlaw05.ModelFixed", spec := "modelFixed", apart := false }
def ModelFixedSaid : Prop := modelFixedRow.holds Try.pinned (OpenSpec.ofChange modelFixedSpec)

/-- ITS FALSE NEIGHBOUR: 'it returns false'. Refute it at one input. -/
def modelFixedWrong : ChangeSpec := { name := "modelFixed", fn := fun _ => fun
  | [d1, d2, d3] => { results := [.lit (.bool false)], args := [d1, d2, d3] }
  | _ => none }
def ModelFixedWrongFalsely : Prop := modelFixedRow.holds Try.pinned (OpenSpec.ofChange modelFixedWrong)

/- THE SECOND FORM. 'bulk': how many values and letters a reading holds, each counted each time it is reached (what is shared counts as often as it is met; a slice's spare places count too). A statement '..UptoSaid' is the law's where the arguments, and the package variables that the reading takes, are together of bulk at most 1048576: NARROWER than '..Said'. Prove '..Said' where nothing that the law and all that it calls make is longer than what came in: it says more and counts as full. Else prove '..UptoSaid'. A law counts once. -/
mutual
def uptoBulk {H : Type} : DataW H → Nat
  | .lit (.string bytes) => bytes.length + 1
  | .lit _ => 1
  | .nil => 1
  | .ptr d => uptoBulk d + 1
  | .slice elems spare => uptoBulkAll elems + uptoBulkAll spare + 1
  | .agg parts => uptoBulkAll parts + 1
  | .iface _ d => uptoBulk d + 1
  | .map entries => uptoBulkEntries entries + 1
  | .held _ => 1
def uptoBulkAll {H : Type} : List (DataW H) → Nat
  | [] => 0
  | d :: r => uptoBulk d + uptoBulkAll r
def uptoBulkEntries {H : Type} : List (Lit × DataW H) → Nat
  | [] => 0
  | x :: r => uptoBulkEntry x + uptoBulkEntries r
def uptoBulkEntry {H : Type} : Lit × DataW H → Nat
  | (.string bytes, d) => bytes.length + uptoBulk d + 1
  | (_, d) => uptoBulk d + 1
 end
def uptoSmall : (H : Type) → List (DataW H) → Bool := fun _ ds => decide (uptoBulkAll ds ≤ 1048576)
def OpenSpec.upto (s : _root_.Go.ChangeSpec) : _root_.Go.OpenSpec := { _root_.Go.OpenSpec.ofChange s with cond := some uptoSmall }

/-- 'sidebandlaw05.ModelLearns', WHERE WHAT IT READS IS OF BULK AT MOST 1048576: true; the input reads as it did. -/
def modelLearnsUptoRow : OpenClaim := { program := "ytlcehlccaepncaa", sum := "be988feac58a2945922e0cc4e8ba6ac23c14031547b3572e4a544c2f9e2d5191", func := "sideband/sidebandlaw05.ModelLearns", spec := "modelLearns", apart := false, narrowed := true }
def ModelLearnsUptoSaid : Prop := modelLearnsUptoRow.holds Try.pinned (OpenSpec.upto modelLearnsSpec)

/-- 'sidebandlaw05.ModelNil', WHERE WHAT IT READS IS OF BULK AT MOST 1048576: true; the input reads as it did. -/
def modelNilUptoRow : OpenClaim := { program := "ytlcehlccaepncaa", sum := "be988feac58a2945922e0cc4e8ba6ac23c14031547b3572e4a544c2f9e2d5191", func := "sideband/sidebandlaw05.ModelNil", spec := "modelNil", apart := false, narrowed := true }
def ModelNilUptoSaid : Prop := modelNilUptoRow.holds Try.pinned (OpenSpec.upto modelNilSpec)

/-- 'sidebandlaw05.ModelFixed', WHERE WHAT IT READS IS OF BULK AT MOST 1048576: true; the input reads as it did. -/
def modelFixedUptoRow : OpenClaim := { program := "ytlcehlccaepncaa", sum := "be988feac58a2945922e0cc4e8ba6ac23c14031547b3572e4a544c2f9e2d5191", func := "sideband/sidebandlaw05.ModelFixed", spec := "modelFixed", apart := false, narrowed := true }
def ModelFixedUptoSaid : Prop := modelFixedUptoRow.holds Try.pinned (OpenSpec.upto modelFixedSpec)

end Rows
end Go.Proofs.Ytlcehlccaepncaa
