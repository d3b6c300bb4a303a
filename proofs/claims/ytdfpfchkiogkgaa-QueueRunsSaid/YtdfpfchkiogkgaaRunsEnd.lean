/-
  QueueRuns' walk, from the row's reading of its arguments on.
-/
import Derived.Test.YtdfpfchkiogkgaaRuns
namespace Go.Proofs.Ytdfpfchkiogkgaa.Own
open Go.RowKit
theorem runs_row {H : Type} {enc : TypeId × Value → H} (W : World) (a0 : Int) (h0 : -9223372036854775808 ≤ a0 ∧ a0 ≤ 9223372036854775807) (a : Option Addr) (len cap : Nat) {d : DataW H} {ps : List MemPlace}
    (h : DataW.Trod enc Try.prog W 0 (fun _ => true) true 22 (.slice a len cap) d ps) :
    Calls Try.prog 3 #[.int .i64 a0, .slice a len cap] W fun e W' => e = .returned (.bool true) ∧ Below W.heap.size W W' := by
  obtain ⟨acs, rfl, h1, h2, h3, h4⟩ := came_of h
  exact runs_c W a0 h0 a cap acs h1 h2 h3 h4
end Go.Proofs.Ytdfpfchkiogkgaa.Own
