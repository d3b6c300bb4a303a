/-
  The Acts that come in: how they are read, out of the row's reading of them; the law's function fits.
-/
import Derived.Test.YtdfpfchkiogkgaaMTake
import Derived.ProofKit
import Derived.Deep.Slices
import Derived.Lib.SmallJoins
import Derived.SizedLaws
set_option linter.unusedVariables false
set_option linter.unusedSimpArgs false
namespace Go.Proofs.Ytdfpfchkiogkgaa.Own
open Go.RowKit Go.Proofs.YtdfpfchkiogkgaaW.PrintWords Go.Proofs.YtdfpfchkiogkgaaW.PrintMore Go.Proofs.Ytdfpfchkiogkgaa.H Go.ChangeShapes Go.WideShapes Go.Joins Go.Deep

/-- An act: what it is, whole or not, a number, bytes. -/
structure Ac where
  kind : Int
  whole : Bool
  n : Int
  bs : List Int
instance : Inhabited Ac := ⟨⟨0, false, 0, []⟩⟩
def Ac.wf (a : Ac) : Prop := (0 ≤ a.kind ∧ a.kind ≤ 255) ∧ (-9223372036854775808 ≤ a.n ∧ a.n ≤ 9223372036854775807) ∧ a.bs.length ≤ maxLen

/-- Act ac is read at an address: four cells, and its bytes. -/
structure AcAt (w : World) (a : Addr) (ac : Ac) (Ai : Option Addr) (ci : Nat) : Prop where
  c0 : w.cell? a = some (.int .u8 ac.kind)
  c1 : w.cell? ⟨a.block, a.off + 1, none⟩ = some (.bool ac.whole)
  c2 : w.cell? ⟨a.block, a.off + 2, none⟩ = some (.int .i64 ac.n)
  c3 : w.cell? ⟨a.block, a.off + 3, none⟩ = some (.slice Ai ac.bs.length ci)
  cap : ac.bs.length ≤ ci
  by_ : News w 1 Ai ac.bs.length (u8s ac.bs)
theorem cell_below {w w1 : World} {a : Addr} {v : Value} (hb : Below w.heap.size w w1) (h : w.cell? a = some v) : w1.cell? a = some v :=
  (hb.cell (World.block_lt_of_cell? w a h)).trans h
theorem AcAt.below {w w1 : World} {a : Addr} {ac : Ac} {Ai : Option Addr} {ci : Nat} (h : AcAt w a ac Ai ci) (hb : Below w.heap.size w w1) : AcAt w1 a ac Ai ci :=
  ⟨cell_below hb h.c0, cell_below hb h.c1, cell_below hb h.c2, cell_below hb h.c3, h.cap, News.below h.by_ hb⟩

/-- The acts that came in. -/
def Came (w : World) (A : Option Addr) (acs : List Ac) : Prop := ∀ (i : Nat) (ac : Ac), acs[i]? = some ac → ∃ ad Ai ci, A = some ad ∧ AcAt w (ad.add (i * 4)) ac Ai ci

theorem C3 : Try.prog.cellsOf 3 = 1 := by kernel_rfl
theorem C4 : Try.prog.cellsOf 4 = 1 := by kernel_rfl
theorem C32 : Try.prog.cellsOf 32 = 1 := by kernel_rfl
theorem C34 : Try.prog.cellsOf 34 = 4 := by kernel_rfl
theorem C5 : Try.prog.cellsOf 5 = 1 := by kernel_rfl

theorem ac_of {H : Type} {enc : TypeId × Value → H} {W : World} {a : Addr} {n : Nat} {cs : List Value} {x : DataW H × List MemPlace}
    (hc : W.cells? 0 a 4 = some cs) (ht : DataW.trod enc Try.prog W 0 (fun _ => true) true n 34 cs = some x) : ∃ (ac : Ac) (Ai : Option Addr) (ci : Nat), AcAt W a ac Ai ci ∧ ac.wf := by
  obtain ⟨_, hl, hat⟩ := World.cells?_some hc
  match cs, hl with
  | [v0, v1, v2, v3], _ =>
    obtain ⟨y0, y1, y2, y3, m, _, _, h0, h1, h2, h3⟩ := trod_struct4 Try.underlying34 ht
    simp only [C3, C4, C5, C32] at h0 h1 h2 h3
    obtain ⟨k, q0, _, w0⟩ := DataW.trod_int Try.underlying5 h0
    obtain ⟨wh, q1, _⟩ := DataW.trod_bool Try.underlying4 h1
    obtain ⟨num, q2, _, w2⟩ := DataW.trod_int Try.underlying3 h2
    simp at q0 q1 q2
    subst q0; subst q1; subst q2
    have b0 : 0 ≤ k ∧ k ≤ 255 := by simp [Lit.wf, IntKind.min, IntKind.max, IntKind.signed, IntKind.bits] at w0; omega
    have b2 : -9223372036854775808 ≤ num ∧ num ≤ 9223372036854775807 := by simp [Lit.wf, IntKind.min, IntKind.max, IntKind.signed, IntKind.bits] at w2; omega
    have x0 := hat 0 (by omega)
    have x1 := hat 1 (by omega)
    have x2 := hat 2 (by omega)
    have x3 := hat 3 (by omega)
    simp [Addr.add] at x0 x1 x2 x3
    have hrow : ∃ Ai len ci zs, v3 = .slice Ai len ci ∧ ((Ai = none ∧ len = 0 ∧ ci = 0 ∧ zs = []) ∨ ∃ x, Ai = some x ∧ len ≤ ci ∧ ci ≤ maxLen ∧ zs.length = ci ∧ (∀ i, i < zs.length → W.cell? (x.add i) = some (.int .u8 (zs.getD i 0))) ∧ ∀ n ∈ zs, (Lit.int .u8 n).wf = true) := by
      rcases open_ints Try.underlying32 Try.underlying5 C5 h3 with ⟨hcs, _⟩ | ⟨b, len, cap, zs, hcs, _, hl, hm, hz, _, hcell, hwz⟩
      · simp at hcs
        exact ⟨none, 0, 0, [], hcs, .inl ⟨rfl, rfl, rfl, rfl⟩⟩
      · simp at hcs
        exact ⟨some b, len, cap, zs, hcs, .inr ⟨b, rfl, hl, hm, by simpa using hz, hcell, hwz⟩⟩
    obtain ⟨Ai, len, ci, zs, rfl, hr⟩ := hrow
    obtain ⟨bs, rfl, hrd, hmx, _, hcap⟩ := ReadsInt.ofRowC hr
    exact ⟨⟨k, wh, num, bs⟩, Ai, ci, ⟨x0, x1, x2, x3, hcap, news_of_C (Kd.C_of_reads (d := (0 : Int)) (h1 := fun _ => rfl) hrd)⟩, b0, b2, hmx⟩

theorem came_of {H : Type} {enc : TypeId × Value → H} {W : World} {a : Option Addr} {len cap : Nat} {d : DataW H} {ps : List MemPlace} (h : DataW.Trod enc Try.prog W 0 (fun _ => true) true 22 (.slice a len cap) d ps) :
    ∃ acs : List Ac, len = acs.length ∧ acs.length ≤ maxLen ∧ (∀ ac ∈ acs, ac.wf) ∧ Came W a acs ∧ acs.length ≤ cap := by
  obtain ⟨fuel, hf⟩ := h
  rcases open_slice Try.underlying22 hf with ⟨hcs, _⟩ | ⟨b, l, c, m, n, D, Pl, hcs, _, hl, hm, hmm, _, hx⟩
  · simp [Value.cells] at hcs
    obtain ⟨rfl, rfl, rfl⟩ := hcs
    exact ⟨[], rfl, by simp, by simp, fun i ac hi => by simp at hi, by simp⟩
  · simp [Value.cells] at hcs
    obtain ⟨rfl, rfl, rfl⟩ := hcs
    have hml : len ≤ m := by simp at hmm; omega
    obtain ⟨f, hf⟩ := choose_lt (α := Ac) (p := fun i ac => (∃ Ai ci, AcAt W (b.add (i * 4)) ac Ai ci) ∧ ac.wf) (n := len) (fun i hi => by
      obtain ⟨cs', h1, h2⟩ := hx i (by omega)
      rw [C34] at h1
      obtain ⟨ac, Ai, ci, h3, h4⟩ := ac_of h1 h2
      exact ⟨ac, ⟨Ai, ci, h3⟩, h4⟩)
    refine ⟨(List.range len).map f, by simp, by simp; omega, fun ac hac => ?_, fun i ac hi => ?_, by simp; omega⟩
    · obtain ⟨i, hi, rfl⟩ := List.mem_map.1 hac
      exact (hf i (by simpa using hi)).2
    · have hil : i < len := by
        have := (List.getElem?_eq_some_iff.1 hi).1
        simpa using this
      have : f i = ac := by simpa [hil] using hi
      subst this
      obtain ⟨⟨Ai, ci, h3⟩, _⟩ := hf i hil
      exact ⟨b, Ai, ci, rfl, h3⟩

def fitsB (acs : List Ac) : Bool := acs.all (fun a => decide (a.bs.length ≤ 100)) && decide (acs.length ≤ 80)
def FitsRel (w : World) (acs : List Ac) (d : Nat) (v : Value) (wr : World) : Prop :=
  ∃ i : Nat, v = .int .i64 (i : Int) ∧ i + d = acs.length ∧ (acs.take i).all (fun a => decide (a.bs.length ≤ 100)) = true ∧ Below w.heap.size w wr

set_option maxHeartbeats 4000000 in
theorem fits_c (w : World) (A : Option Addr) (c0 : Nat) (acs : List Ac) (hlm : acs.length ≤ maxLen) (hwf : ∀ ac ∈ acs, ac.wf) (hca : Came w A acs) :
    Calls Try.prog 7 #[.slice A acs.length c0] w (LowPost (.bool (fitsB acs)) w) := by
  have HA := Aside0.mk hca
  have HW := Aside0.mk hwf
  clear hca hwf
  unfold maxLen at hlm
  go_enter Try.func7, Try.ntmps7
  go_wp2_with fail
  go_loopg [7] acs.length (fun d v wr => FitsRel w acs d v wr)
  case atStart => exact ⟨0, rfl, by simp, by simp, Below.refl _ _⟩
  case round =>
    obtain ⟨i, rfl, hi, hall, hb⟩ := hrel
    by_cases hlt : i < acs.length
    · cases gk with
      | zero => omega
      | succ go =>
      obtain ⟨ac, hac⟩ : ∃ ac, acs[i]? = some ac := ⟨acs[i], by simp [hlt]⟩
      obtain ⟨ad, Ai, ci, rfl, hat⟩ := HA.out i ac hac
      obtain ⟨x0, x1, x2, x3, xc, xb⟩ := hat.below hb
      have dlt : decide ((i : Int) < (acs.length : Int)) = true := by simp; omega
      have dlt2 : decide (i < acs.length) = true := decide_eq_true hlt
      have hpm := (HW.out ac (List.mem_of_getElem? hac)).2.2
      unfold maxLen at hpm
      have HAC := Aside0.mk (And.intro hac hall)
      have HB := Aside0.mk hb
      clear hat xb hac hall hb
      by_cases h100 : ac.bs.length ≤ 100
      · have e1 : decide (100 < (ac.bs.length : Int)) = false := by simp; omega
        have e2 : decide (100 < ac.bs.length) = false := by simp; omega
        go_wp2_with fail
        go_roundg go
        case measure => omega
        case rel =>
          refine ⟨i + 1, by go_num, by omega, ?_, HB.out.alloc HB.out.size _⟩
          rw [List.take_add_one, HAC.out.1]
          simp [HAC.out.2, h100]
      · have e1 : decide (100 < (ac.bs.length : Int)) = true := by simp; omega
        have e2 : decide (100 < ac.bs.length) = true := by simp; omega
        have hf : fitsB acs = false := by
          have : acs.all (fun a => decide (a.bs.length ≤ 100)) = false := by
            rw [List.all_eq_false]
            exact ⟨ac, List.mem_of_getElem? HAC.out.1, by simpa using h100⟩
          simp [fitsB, this]
        have HF := Aside0.mk hf
        clear hf
        go_wp2_with fail
        refine bodyPost_ret (v := .bool false) (by simp [results, Try.results7, go_sem, *]) rfl ⟨by rw [HF.out], HB.out.alloc HB.out.size _⟩
    · have dlt : decide ((i : Int) < (acs.length : Int)) = false := by simp; omega
      have dlt2 : decide (i < acs.length) = false := decide_eq_false hlt
      have hf : fitsB acs = decide ((acs.length : Int) ≤ 80) := by
        have : acs.all (fun a => decide (a.bs.length ≤ 100)) = true := by
          have h2 := hall
          rwa [List.take_of_length_le (by omega)] at h2
        simp only [fitsB, this, Bool.true_and]
        congr 1
        simp; omega
      have HF := Aside0.mk hf
      clear hf hall
      go_wp2_with fail
      refine bodyPost_ret (v := .bool (decide ((acs.length : Int) ≤ 80))) (by simp [results, Try.results7, go_sem, *]) rfl ⟨by rw [HF.out], hb⟩
end Go.Proofs.Ytdfpfchkiogkgaa.Own
