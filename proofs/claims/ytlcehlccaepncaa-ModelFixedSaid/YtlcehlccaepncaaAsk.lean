/-
  The model's functions Part, Find, Len by their contracts; no model; numbers out of bounds.
-/
import Derived.Test.YtlcehlccaepncaaLearn
set_option linter.unusedVariables false
set_option linter.unusedSimpArgs false
namespace Go.Proofs.Ytlcehlccaepncaa.Own
open Go.RowKit Go.Proofs.YtlcehlccaepncaaW.PrintWords Go.Proofs.YtlcehlccaepncaaW.PrintMore Go.Proofs.Ytlcehlccaepncaa.H

def Quiet (v : Value) (w : World) (e : Ending) (w' : World) : Prop := e = .returned v ∧ w = w'
/-- A symbol's part. -/
def part (fs : List Nat) (s : Nat) : Value := .agg #[.int .u32 ((fs.take s).sum : Nat), .int .u32 (fs.getD s 0 : Nat), .int .u32 (fs.sum : Nat)]
def noPart : Value := .agg #[.int .u32 0, .int .u32 0, .int .u32 0]
/-- The symbol in whose part a number is. -/
def find (fs : List Nat) (a : Nat) : Nat := ((List.range fs.length).find? (fun i => decide (a < (fs.take (i + 1)).sum))).getD (fs.length - 1)

theorem take_sum_le (fs : List Nat) (i : Nat) : (fs.take i).sum ≤ fs.sum := by
  conv => rhs; rw [← List.take_append_drop i fs]
  rw [List.sum_append]; omega
theorem take_sum_succ {fs : List Nat} {i : Nat} (h : i < fs.length) : (fs.take (i + 1)).sum = (fs.take i).sum + fs.getD i 0 := by
  rw [List.take_succ_eq_append_getElem h, List.sum_append]; simp [h]
theorem take_sum_mono (fs : List Nat) {i j : Nat} (h : i ≤ j) : (fs.take i).sum ≤ (fs.take j).sum := by
  have := take_sum_le (fs.take j) i
  rwa [List.take_take, Nat.min_eq_left h] at this
theorem find_hit {fs : List Nat} {a i : Nat} (hi : i < fs.length) (h1 : (fs.take i).sum ≤ a) (h2 : a < (fs.take (i + 1)).sum) : find fs a = i := by
  unfold find
  have : (List.range fs.length).find? (fun i => decide (a < (fs.take (i + 1)).sum)) = some i := by
    rw [List.find?_range_eq_some]
    refine ⟨by simpa using h2, by simpa using hi, fun j hj => ?_⟩
    have := take_sum_mono fs (i := j + 1) (j := i) (by omega)
    simp; omega
  rw [this]; rfl
theorem find_miss {fs : List Nat} {a : Nat} (h : fs.sum ≤ a) : find fs a = fs.length - 1 := by
  unfold find
  have : (List.range fs.length).find? (fun i => decide (a < (fs.take (i + 1)).sum)) = none := by
    rw [List.find?_eq_none]
    intro j _
    have := take_sum_le fs (j + 1)
    simp; omega
  rw [this]; rfl

def LowPost (v : Value) (w : World) (e : Ending) (w' : World) : Prop := e = .returned v ∧ Below w.heap.size w w'

theorem learn_bad {w : World} {B p g o c : Nat} {fs : List Nat} {fx : Bool} (h : Mod w B p g o c fs fx) (s : Int) (hs : s < 0 ∨ (fs.length : Int) ≤ s) : Calls Try.prog 9 #[.pointer (some ⟨p, 0, none⟩), .int .i64 s] w (Quiet (.int .i64 1) w) := by
  obtain ⟨c0, c1, c2, cf⟩ := h.hm.three
  have d : decide (s < 0) = true ∨ (decide (s < 0) = false ∧ decide ((fs.length : Int) ≤ s) = true) := by simp only [decide_eq_true_eq, decide_eq_false_iff_not]; omega
  clear hs h
  rcases d with d1 | ⟨d1, d2⟩
  all_goals
    go_enter Try.func9, Try.ntmps9
    go_wp2_with fail
    exact bodyPost_ret (v := .int .i64 1) (by simp [results, Try.results9, go_sem, *]) rfl ⟨rfl, rfl⟩
theorem learn_nil (s : Value) (w : World) : Calls Try.prog 9 #[.pointer none, s] w (Quiet (.int .i64 1) w) := by
  go_enter Try.func9, Try.ntmps9
  go_wp2_with fail
  exact bodyPost_ret (v := .int .i64 1) (by simp [results, Try.results9, go_sem, *]) rfl ⟨rfl, rfl⟩
theorem learn_fixed {w : World} {B p g o c : Nat} {fs : List Nat} (h : Mod w B p g o c fs true) (s : Nat) (hs : s < fs.length) : Calls Try.prog 9 #[.pointer (some ⟨p, 0, none⟩), .int .i64 (s : Int)] w (Quiet (.int .i64 0) w) := by
  obtain ⟨c0, c1, c2, cf⟩ := h.hm.three
  have d1 : decide ((s : Int) < 0) = false := by simp
  have d2 : decide ((fs.length : Int) ≤ (s : Int)) = false := by simp; omega
  have d3 : decide (fs.length ≤ s) = false := by simp; omega
  clear h
  go_enter Try.func9, Try.ntmps9
  go_wp2_with fail
  exact bodyPost_ret (v := .int .i64 0) (by simp [results, Try.results9, go_sem, *]) rfl ⟨rfl, rfl⟩

theorem len_c {w : World} {B p g o c : Nat} {fs : List Nat} {fx : Bool} (h : Mod w B p g o c fs fx) : Calls Try.prog 14 #[.pointer (some ⟨p, 0, none⟩)] w (Quiet (.int .i64 (fs.length : Int)) w) := by
  obtain ⟨c0, c1, c2, cf⟩ := h.hm.three
  clear h
  go_enter Try.func14, Try.ntmps14
  go_wp2_with fail
  exact bodyPost_ret (v := .int .i64 (fs.length : Int)) (by simp [results, Try.results14, go_sem, *]) rfl ⟨rfl, rfl⟩
theorem len_nil (w : World) : Calls Try.prog 14 #[.pointer none] w (Quiet (.int .i64 0) w) := by
  go_enter Try.func14, Try.ntmps14
  go_wp2_with fail
  exact bodyPost_ret (v := .int .i64 0) (by simp [results, Try.results14, go_sem, *]) rfl ⟨rfl, rfl⟩
theorem find_nil (a : Value) (w : World) : Calls Try.prog 13 #[.pointer none, a] w (Quiet (.int .i64 0) w) := by
  go_enter Try.func13, Try.ntmps13
  go_wp2_with fail
  exact bodyPost_ret (v := .int .i64 0) (by simp [results, Try.results13, go_sem, *]) rfl ⟨rfl, rfl⟩

theorem part_nil (s : Value) (w : World) : Calls Try.prog 11 #[.pointer none, s] w (LowPost (.tuple #[noPart, .int .i64 1]) w) := by
  go_enter Try.func11, Try.ntmps11
  go_wp2_with fail
  refine bodyPost_ret (v := .tuple #[noPart, .int .i64 1]) (by simp [results, Try.results11, go_sem, *, noPart]) rfl ⟨rfl, ?_⟩
  exact (Below.refl _ w).alloc (Nat.le_refl _) _
theorem part_bad {w : World} {B p g o c : Nat} {fs : List Nat} {fx : Bool} (h : Mod w B p g o c fs fx) (s : Int) (hs : s < 0 ∨ (fs.length : Int) ≤ s) : Calls Try.prog 11 #[.pointer (some ⟨p, 0, none⟩), .int .i64 s] w (LowPost (.tuple #[noPart, .int .i64 1]) w) := by
  obtain ⟨c0, c1, c2, cf⟩ := (h.hm.alloc (.cells #[.int .u32 0, .int .u32 0, .int .u32 0] 36)).three
  have d : decide (s < 0) = true ∨ (decide (s < 0) = false ∧ decide ((fs.length : Int) ≤ s) = true) := by simp only [decide_eq_true_eq, decide_eq_false_iff_not]; omega
  clear hs h
  rcases d with d1 | ⟨d1, d2⟩
  all_goals
    go_enter Try.func11, Try.ntmps11
    go_wp2_with fail
    refine bodyPost_ret (v := .tuple #[noPart, .int .i64 1]) (by simp [results, Try.results11, go_sem, *, noPart]) rfl ⟨rfl, ?_⟩
    exact (Below.refl _ w).alloc (Nat.le_refl _) _

theorem Mod.cells {w : World} {B p g o c : Nat} {fs : List Nat} {fx : Bool} (h : Mod w B p g o c fs fx) (j : Nat) (hj : j < fs.length) : w.cell? ⟨g, o + j, none⟩ = (u32s fs)[j]? := by
  obtain ⟨g', o', he, _, hc, hgf, hset⟩ := q_open h.hq h.good.len.1
  simp only [Option.some.injEq, Addr.mk.injEq, and_true] at he
  obtain ⟨rfl, rfl⟩ := he
  exact hc j hj
/-- At the head of the loop that sums the lesser ones. -/
def LowRel (w : World) (p g o c lb rb : Nat) (fs : List Nat) (s : Nat) (d : Nat) (v : Value) (wr : World) : Prop :=
  ∃ i : Nat, v = .int .i64 i ∧ i + d = s ∧ Has wr lb 36 [.int .u32 (((fs.take i).sum : Nat) : Int), .int .u32 ((fs.getD s 0 : Nat) : Int), .int .u32 ((fs.sum : Nat) : Int)] ∧ Has wr rb 36 [.int .u32 0, .int .u32 0, .int .u32 0] ∧ (∀ j, j < fs.length → wr.cell? ⟨g, o + j, none⟩ = (u32s fs)[j]?) ∧ Below w.heap.size w wr

set_option maxHeartbeats 4000000 in
theorem part_c {w : World} {B p g o c : Nat} {fs : List Nat} {fx : Bool} (h : Mod w B p g o c fs fx) (s : Nat) (hs : s < fs.length) : Calls Try.prog 11 #[.pointer (some ⟨p, 0, none⟩), .int .i64 (s : Int)] w (LowPost (.tuple #[part fs s, .int .i64 0]) w) := by
  have hsum := h.good.sum
  have hg64 := h.good.len.2
  have hb1 : Below w.heap.size w (w.alloc (.cells #[.int .u32 0, .int .u32 0, .int .u32 0] 36)) := (Below.refl _ w).alloc (Nat.le_refl _) _
  have hm1 := h.below hb1
  have hrb := Has.new w 36 [.int .u32 0, .int .u32 0, .int .u32 0]
  have hcap : fs.length ≤ c := by obtain ⟨_, _, he', hc⟩ := q_slice h.hq; simp at he'; omega
  obtain ⟨w1, hw1⟩ : ∃ w1, w.alloc (.cells #[.int .u32 0, .int .u32 0, .int .u32 0] 36) = w1 := ⟨_, rfl⟩
  have hsz : w1.heap.size = w.heap.size + 1 := by rw [← hw1]; simp
  have d1 : decide ((s : Int) < 0) = false := by simp
  have d2 : decide ((fs.length : Int) ≤ (s : Int)) = false := by simp; omega
  have d3 : decide (fs.length ≤ s) = false := by simp; omega
  have hsi : (s : Int) < (fs.length : Int) := by omega
  have hsi0 : (0 : Int) ≤ (s : Int) := by omega
  rw [hw1] at hb1 hm1
  have hrb1 : Has w1 w.heap.size 36 [.int .u32 0, .int .u32 0, .int .u32 0] := by rw [← hw1]; exact hrb
  obtain ⟨c0, c1, c2, cf⟩ := hm1.hm.three
  obtain ⟨g', o', he, _, hc, hgf, hset⟩ := q_open hm1.hq hm1.good.len.1
  simp only [Option.some.injEq, Addr.mk.injEq, and_true] at he
  obtain ⟨rfl, rfl⟩ := he
  have x0 := (hc s hs).trans (u32s_at hs)
  have hx := sum_ge (fs := fs) (i := s)
  have hrb2 := (hrb1.alloc (.cells #[.int .u32 0, .int .u32 0, .int .u32 0] 36))
  have hm2 := hm1.below ((Below.refl _ w1).alloc (Nat.le_refl _) (.cells #[.int .u32 0, .int .u32 0, .int .u32 0] 36))
  have hc2 := Mod.cells hm2
  have y0 := (hc2 s hs).trans (u32s_at hs)
  obtain ⟨b0, b1, b2, bf⟩ := hm2.hm.three
  obtain ⟨x, hxe⟩ : ∃ x, fs.getD s 0 = x := ⟨_, rfl⟩
  rw [hxe] at x0 y0 hx
  have HX := Aside0.mk hxe
  have HM := Aside0.mk hm1
  have HB := Aside0.mk hb1
  have HR := Aside0.mk hrb1
  have HC := Aside0.mk hc
  clear h hrb hm1 hb1 hrb1 hc hset hm2 hc2 hxe hrb2
  go_enter Try.func11, Try.ntmps11
  go_wp2_with fail
  clear hw1
  go_region
  obtain ⟨w3, hw3⟩ : ∃ w3, (w1.alloc (.cells #[.int .u32 0, .int .u32 (x : Int), .int .u32 (fs.sum : Int)] 36)).drew = w3 := ⟨_, rfl⟩
  rw [hw3]
  have hb3 : Below w1.heap.size w1 w3 := by rw [← hw3]; exact ((Below.refl _ w1).alloc (Nat.le_refl _) _).drew
  have hl3 : Has w3 (w.heap.size + 1) 36 [.int .u32 0, .int .u32 (x : Int), .int .u32 (fs.sum : Int)] := by
    rw [← hw3, ← hsz]; exact Has.drew (Has.new w1 36 [_, _, _])
  have hm3 := HM.out.below hb3
  have hr3 := HR.out.below hb3 (by omega)
  have hst : LowRel w p g o c (w.heap.size + 1) w.heap.size fs s s (.int .i64 ((0 : Nat) : Int)) w3 :=
    ⟨0, rfl, by omega, by rw [HX.out]; simpa using hl3, hr3, hm3.cells, HB.out.trans (hb3.mono HB.out.size)⟩
  have HST := Aside0.mk hst
  clear c0 c1 c2 cf b0 b1 b2 bf x0 y0 hst hl3 hr3 hw3 hgf
  obtain ⟨c0, c1, c2, cf⟩ := hm3.hm.three
  clear hm3
  have hs0 : decide ((s : Int) < 0) = false := by simp
  have hsc : (s : Int) ≤ (c : Int) := by omega
  go_wp2_with fail
  go_loopg [44] s (fun d v wr => LowRel w p g o c (w.heap.size + 1) w.heap.size fs s d v wr)
  case atStart => exact HST.out
  case round =>
    clear HST c0 c1 c2 cf
    obtain ⟨i, rfl, hi, hl, hr, hc, hb⟩ := hrel
    obtain ⟨l0, l1, l2, lf⟩ := hl.three
    obtain ⟨r0, r1, r2, rf⟩ := hr.three
    have hts := take_sum_le fs i
    by_cases hlt : i < s
    · cases gk with
      | zero => omega
      | succ gk =>
      have z0 := (hc i (by omega)).trans (u32s_at (by omega))
      have hz := sum_ge (fs := fs) (i := i)
      have hts1 := take_sum_le fs (i + 1)
      have htsc := take_sum_succ (fs := fs) (i := i) (by omega)
      obtain ⟨z, hze⟩ : ∃ z, fs.getD i 0 = z := ⟨_, rfl⟩
      rw [hze] at z0 hz htsc
      have hgl : g ≠ w.heap.size + 1 := by have := HM.out.glt; omega
      have HQ := Aside0.mk (And.intro hl (And.intro hr (And.intro hc hb)))
      clear hc hl hr hb
      go_wp2_with fail
      go_roundg gk
      case measure => omega
      case rel =>
        refine ⟨i + 1, by go_num, by omega, ?_, HQ.out.2.1.far (by simp) _, ?_, HQ.out.2.2.2.setCell (by simp) _⟩
        · rw [htsc]; push_cast; exact HQ.out.1.set 0 _
        · intro j hj
          rw [World.cell?_setCell_far _ _ _ _ (by simpa using Ne.symm hgl)]
          exact HQ.out.2.2.1 j hj
    · have hin : i = s := by omega
      subst hin
      have HQ := Aside0.mk hb
      clear hc hl hr hb
      go_wp2_with fail
      refine bodyPost_ret (v := .tuple #[part fs i, .int .i64 0]) (by simp [results, Try.results11, go_sem, *, part]) rfl ⟨rfl, ?_⟩
      exact ((HQ.out.setCell (Nat.le_refl _) _).setCell (Nat.le_refl _) _).setCell (Nat.le_refl _) _

def FindRel (w : World) (fs : List Nat) (a : Nat) (d : Nat) (v1 v14 : Value) (wr : World) : Prop :=
  ∃ i r : Nat, v14 = .int .i64 i ∧ v1 = .int .u32 r ∧ i + d = fs.length ∧ (fs.take i).sum + r = a ∧ w = wr

set_option maxHeartbeats 4000000 in
theorem find_c {w : World} {B p g o c : Nat} {fs : List Nat} {fx : Bool} (h : Mod w B p g o c fs fx) (a : Nat) (ha : a ≤ 4294967295) : Calls Try.prog 13 #[.pointer (some ⟨p, 0, none⟩), .int .u32 (a : Int)] w (Quiet (.int .i64 (find fs a : Nat)) w) := by
  have hsum := h.good.sum
  have hg64 := h.good.len
  obtain ⟨c0, c1, c2, cf⟩ := h.hm.three
  have HC := Aside0.mk (Mod.cells h)
  clear h
  go_enter Try.func13, Try.ntmps13
  go_wp2_with fail
  go_loopg [1, 14] fs.length (fun d v1 v14 wr => FindRel w fs a d v1 v14 wr)
  case atStart => exact ⟨0, a, rfl, rfl, by simp, by simp, rfl⟩
  case round =>
    obtain ⟨i, r, rfl, rfl, hi, hr, rfl⟩ := hrel
    have hts := take_sum_le fs i
    by_cases hlt : i < fs.length
    · have z0 := (HC.out i hlt).trans (u32s_at hlt)
      have hz := sum_ge (fs := fs) (i := i)
      have htsc := take_sum_succ (fs := fs) (i := i) hlt
      obtain ⟨z, hze⟩ : ∃ z, fs.getD i 0 = z := ⟨_, rfl⟩
      rw [hze] at z0 hz htsc
      by_cases hrz : r < z
      · have e1 : decide ((r : Int) < (z : Int)) = true := by simp; omega
        have e2 : decide (r < z) = true := by simp; omega
        have hf := find_hit (a := a) hlt (by omega) (by omega)
        go_wp2_with fail
        exact bodyPost_ret (v := .int .i64 (i : Int)) (by simp [results, Try.results13, go_sem, *]) rfl ⟨by rw [hf], rfl⟩
      · have e1 : decide ((r : Int) < (z : Int)) = false := by simp; omega
        have e2 : decide (r < z) = false := by simp; omega
        cases gk with
        | zero => omega
        | succ gk =>
        go_wp2_with fail
        go_roundg gk
        case measure => omega
        case rel => exact ⟨i + 1, r - z, by go_num, by simp; omega, by omega, by omega, rfl⟩
    · have hin : i = fs.length := by omega
      have hall : (fs.take i).sum = fs.sum := by rw [hin, List.take_length]
      have hf := find_miss (fs := fs) (a := a) (by omega)
      go_wp2_with fail
      exact bodyPost_ret (v := .int .i64 ((fs.length : Int) - 1)) (by simp [results, Try.results13, go_sem, *]) rfl ⟨by rw [hf]; congr 2; omega, rfl⟩
end Go.Proofs.Ytlcehlccaepncaa.Own
