/-
  RingKeeps' packets, out of the row's reading of them.
-/
import Derived.Test.YtgbopeeohimlnaaKeeps0
import Derived.ProofKit
import Derived.Deep.Slices
import Derived.Lib.SmallJoins
import Derived.SizedLaws
set_option linter.unusedVariables false
set_option linter.unusedSimpArgs false
namespace Go.Proofs.Ytgbopeeohimlnaa.Own
open Go.RowKit Go.Proofs.YtgbopeeohimlnaaW.PrintWords Go.Proofs.Ytgbopeeohimlnaa.H Go.ChangeShapes Go.WideShapes Go.Joins Go.Deep

instance : Inhabited Pk := ⟨⟨0, 0, false, []⟩⟩
theorem C29 : Try.prog.cellsOf 29 = 1 := by kernel_rfl
theorem C4 : Try.prog.cellsOf 4 = 1 := by kernel_rfl
theorem C30 : Try.prog.cellsOf 30 = 1 := by kernel_rfl
theorem C32 : Try.prog.cellsOf 32 = 4 := by kernel_rfl
theorem C5 : Try.prog.cellsOf 5 = 1 := by kernel_rfl

theorem pk_of {H : Type} {enc : TypeId × Value → H} {W : World} {a : Addr} {n : Nat} {cs : List Value} {x : DataW H × List MemPlace}
    (hc : W.cells? 0 a 4 = some cs) (ht : DataW.trod enc Try.prog W 0 (fun _ => true) true n 32 cs = some x) : ∃ (pk : Pk) (Ai : Option Addr) (ci : Nat), PkAt W a pk Ai ci ∧ pk.bs.length ≤ maxLen := by
  obtain ⟨_, hl, hat⟩ := World.cells?_some hc
  match cs, hl with
  | [v0, v1, v2, v3], _ =>
    obtain ⟨y0, y1, y2, y3, m, _, _, h0, h1, h2, h3⟩ := trod_struct4 Try.underlying32 ht
    simp only [C29, C4, C30] at h0 h1 h2 h3
    obtain ⟨e, q0, _, _⟩ := DataW.trod_int Try.underlying29 h0
    obtain ⟨num, q1, _, _⟩ := DataW.trod_int Try.underlying29 h1
    obtain ⟨wh, q2, _⟩ := DataW.trod_bool Try.underlying4 h2
    simp at q0 q1 q2
    subst q0; subst q1; subst q2
    have x0 := hat 0 (by omega)
    have x1 := hat 1 (by omega)
    have x2 := hat 2 (by omega)
    have x3 := hat 3 (by omega)
    simp [Addr.add] at x0 x1 x2 x3
    have hrow : ∃ Ai len ci zs, v3 = .slice Ai len ci ∧ ((Ai = none ∧ len = 0 ∧ ci = 0 ∧ zs = []) ∨ ∃ x, Ai = some x ∧ len ≤ ci ∧ ci ≤ maxLen ∧ zs.length = ci ∧ (∀ i, i < zs.length → W.cell? (x.add i) = some (.int .u8 (zs.getD i 0))) ∧ ∀ n ∈ zs, (Lit.int .u8 n).wf = true) := by
      rcases open_ints Try.underlying30 Try.underlying5 C5 h3 with ⟨hcs, _⟩ | ⟨b, len, cap, zs, hcs, _, hl, hm, hz, _, hcell, hwz⟩
      · simp at hcs
        exact ⟨none, 0, 0, [], hcs, .inl ⟨rfl, rfl, rfl, rfl⟩⟩
      · simp at hcs
        exact ⟨some b, len, cap, zs, hcs, .inr ⟨b, rfl, hl, hm, by simpa using hz, hcell, hwz⟩⟩
    obtain ⟨Ai, len, ci, zs, rfl, hr⟩ := hrow
    obtain ⟨bs, rfl, hrd, hmx, _, hcap⟩ := ReadsInt.ofRowC hr
    exact ⟨⟨e, num, wh, bs⟩, Ai, ci, ⟨x0, x1, x2, x3, hcap, Kd.C_of_reads (d := (0 : Int)) (h1 := fun _ => rfl) hrd⟩, hmx⟩

theorem came_of {H : Type} {enc : TypeId × Value → H} {W : World} {a : Option Addr} {len cap : Nat} {d : DataW H} {ps : List MemPlace} (h : DataW.Trod enc Try.prog W 0 (fun _ => true) true 22 (.slice a len cap) d ps) :
    ∃ pks : List Pk, len = pks.length ∧ pks.length ≤ maxLen ∧ (∀ pk ∈ pks, pk.bs.length ≤ maxLen) ∧ Came W a pks ∧ pks.length ≤ cap := by
  obtain ⟨fuel, hf⟩ := h
  rcases open_slice Try.underlying22 hf with ⟨hcs, _⟩ | ⟨b, l, c, m, n, D, Pl, hcs, _, hl, hm, hmm, _, hx⟩
  · simp [Value.cells] at hcs
    obtain ⟨rfl, rfl, rfl⟩ := hcs
    exact ⟨[], rfl, by simp, by simp, fun i pk hi => by simp at hi, by simp⟩
  · simp [Value.cells] at hcs
    obtain ⟨rfl, rfl, rfl⟩ := hcs
    have hml : len ≤ m := by simp at hmm; omega
    obtain ⟨f, hf⟩ := choose_lt (α := Pk) (p := fun i pk => (∃ Ai ci, PkAt W (b.add (i * 4)) pk Ai ci) ∧ pk.bs.length ≤ maxLen) (n := len) (fun i hi => by
      obtain ⟨cs', h1, h2⟩ := hx i (by omega)
      rw [C32] at h1
      obtain ⟨pk, Ai, ci, h3, h4⟩ := pk_of h1 h2
      exact ⟨pk, ⟨Ai, ci, h3⟩, h4⟩)
    refine ⟨(List.range len).map f, by simp, by simp; omega, fun pk hpk => ?_, fun i pk hi => ?_, by simp; omega⟩
    · obtain ⟨i, hi, rfl⟩ := List.mem_map.1 hpk
      exact (hf i (by simpa using hi)).2
    · have hil : i < len := by
        have := (List.getElem?_eq_some_iff.1 hi).1
        simpa using this
      have : f i = pk := by simpa [hil] using hi
      subst this
      obtain ⟨⟨Ai, ci, h3⟩, _⟩ := hf i hil
      exact ⟨b, Ai, ci, rfl, h3⟩
end Go.Proofs.Ytgbopeeohimlnaa.Own
