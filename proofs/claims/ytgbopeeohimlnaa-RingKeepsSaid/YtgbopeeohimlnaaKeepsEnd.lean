/-
  RingKeeps' walk, from the row's reading of its arguments on.
-/
import Derived.Test.YtgbopeeohimlnaaKeeps
import Derived.Test.YtgbopeeohimlnaaOpen
namespace Go.Proofs.Ytgbopeeohimlnaa.Own
open Go.RowKit
theorem keeps_row {H : Type} {enc : TypeId × Value → H} (W : World) (a0 : Int) (h0 : -9223372036854775808 ≤ a0 ∧ a0 ≤ 9223372036854775807) (a : Option Addr) (len cap : Nat) {d : DataW H} {ps : List MemPlace}
    (h : DataW.Trod enc Try.prog W 0 (fun _ => true) true 22 (.slice a len cap) d ps) (i : Int) (_ : -9223372036854775808 ≤ i ∧ i ≤ 9223372036854775807) :
    Calls Try.prog 3 #[.int .i64 a0, .slice a len cap, .int .i64 i] W fun e w' => e = .returned (.bool true) ∧ Below W.heap.size W w' := by
  obtain ⟨pks, rfl, h1, h2, h3, h4⟩ := came_of h
  exact keeps_c W a0 h0 a cap pks h1 h2 h3 h4 i
end Go.Proofs.Ytgbopeeohimlnaa.Own
