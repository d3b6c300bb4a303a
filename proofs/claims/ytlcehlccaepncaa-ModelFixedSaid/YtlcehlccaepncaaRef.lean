/-
  The reference's functions New, Sum, Find, Learn by their contracts.
-/
import Derived.Test.YtlcehlccaepncaaAsk
set_option linter.unusedVariables false
set_option linter.unusedSimpArgs false
namespace Go.Proofs.Ytlcehlccaepncaa.Own
open Go.RowKit Go.Proofs.YtlcehlccaepncaaW.PrintWords Go.Proofs.YtlcehlccaepncaaW.PrintMore Go.Proofs.Ytlcehlccaepncaa.H

/-- The reference at block p. -/
structure Ref (w : World) (B p g o c : Nat) (fs : List Nat) (fx : Bool) : Prop where
  len : 1 ≤ fs.length ∧ fs.length ≤ 64
  sum : fs.sum ≤ 274877906944
  hp : B ≤ p
  hm : Has w p 53 [.slice (some ⟨g, o, none⟩) fs.length c, .bool fx]
  hq : QRow w B 3 1 (.slice (some ⟨g, o, none⟩) fs.length c) fs.length (i64s fs)

theorem Has.two {w : World} {b E : Nat} {x0 x1 : Value} (h : Has w b E [x0, x1]) : w.cell? ⟨b, 0, none⟩ = some x0 ∧ w.cell? ⟨b, 1, none⟩ = some x1 ∧ ∀ i, w.frozen? ⟨b, i, none⟩ = false :=
  ⟨h.cell 0, h.cell 1, h.frozen⟩

section
variable {S : Nat → Prop} {w w1 : World} {B p g o c : Nat} {fs : List Nat} {fx : Bool}
theorem Ref.row (h : Ref w B p g o c fs fx) : B ≤ g ∧ ∃ cur, w.heap[g]? = some (.cells cur 3 (0, 0)) := q_typed h.hq g rfl
theorem Ref.ne (h : Ref w B p g o c fs fx) : p ≠ g := by
  intro e
  subst e
  obtain ⟨_, cur, hc⟩ := h.row
  have := h.hm.out.symm.trans hc
  simp at this
theorem Ref.glt (h : Ref w B p g o c fs fx) : g < w.heap.size := q_lt h.hq g rfl
theorem Ref.but (h : Ref w B p g o c fs fx) (hb : But S w w1) (hp : ¬ S p) (hg : ¬ S g) : Ref w1 B p g o c fs fx :=
  ⟨h.len, h.sum, h.hp, h.hm.but hb hp, q_but h.hq hb (fun k hk => by simp [Value.ownBlock] at hk; subst hk; exact hg)⟩
theorem Ref.below (h : Ref w B p g o c fs fx) (hb : Below w.heap.size w w1) : Ref w1 B p g o c fs fx :=
  h.but (S := fun _ => False) (But.of_below hb) (fun h => h) (fun h => h)
theorem Ref.cells (h : Ref w B p g o c fs fx) (j : Nat) (hj : j < fs.length) : w.cell? ⟨g, o + j, none⟩ = (i64s fs)[j]? := by
  obtain ⟨g', o', he, _, hc, hgf, hset⟩ := q_open h.hq h.len.1
  simp only [Option.some.injEq, Addr.mk.injEq, and_true] at he
  obtain ⟨rfl, rfl⟩ := he
  exact hc j hj
theorem Ref.apart {p' g' o' c' : Nat} {fs' : List Nat} {fx' : Bool} (h : Ref w B p g o c fs fx) (k : Mod w B p' g' o' c' fs' fx') : p ≠ p' ∧ p ≠ g' ∧ g ≠ p' ∧ g ≠ g' := by
  obtain ⟨_, cur, hc⟩ := h.row
  obtain ⟨_, cur', hc'⟩ := k.row
  refine ⟨?_, ?_, ?_, ?_⟩
  all_goals intro e; subst e
  · have := h.hm.out.symm.trans k.hm.out; simp at this
  · have := h.hm.out.symm.trans hc'; simp at this
  · have := hc.symm.trans k.hm.out; simp at this
  · have := hc.symm.trans hc'; simp at this
end

def SumRel (w : World) (fs : List Nat) (n : Nat) (d : Nat) (v5 v6 : Value) (wr : World) : Prop :=
  ∃ i : Nat, v6 = .int .i64 i ∧ v5 = .int .i64 ((fs.take i).sum : Nat) ∧ i + d = n ∧ w = wr

set_option maxHeartbeats 4000000 in
theorem sum_c {w : World} {B p g o c : Nat} {fs : List Nat} {fx : Bool} (h : Ref w B p g o c fs fx) (n : Nat) (hn : n ≤ fs.length) : Calls Try.prog 17 #[.pointer (some ⟨p, 0, none⟩), .int .i64 (n : Int)] w (Quiet (.int .i64 ((fs.take n).sum : Nat)) w) := by
  have hsum := h.sum
  have hg64 := h.len
  obtain ⟨c0, c1, cf⟩ := Has.two h.hm
  have HC := Aside0.mk (Ref.cells h)
  clear h
  go_enter Try.func17, Try.ntmps17
  go_wp2_with fail
  go_loopg [5, 6] n (fun d v5 v6 wr => SumRel w fs n d v5 v6 wr)
  case atStart => exact ⟨0, rfl, rfl, by simp, rfl⟩
  case round =>
    obtain ⟨i, rfl, rfl, hi, rfl⟩ := hrel
    have hts := take_sum_le fs i
    by_cases hlt : i < n
    · have z0 := (HC.out i (by omega)).trans (i64s_at (by omega))
      have hz := sum_ge (fs := fs) (i := i)
      have htsc := take_sum_succ (fs := fs) (i := i) (by omega)
      have hts1 := take_sum_le fs (i + 1)
      obtain ⟨z, hze⟩ : ∃ z, fs.getD i 0 = z := ⟨_, rfl⟩
      rw [hze] at z0 hz htsc
      have hil : (i : Int) < (fs.length : Int) := by omega
      cases gk with
      | zero => omega
      | succ gk =>
      go_wp2_with fail
      go_roundg gk
      case measure => omega
      case rel => exact ⟨i + 1, by go_num, by rw [htsc]; simp, by omega, rfl⟩
    · have hin : i = n := by omega
      subst hin
      go_wp2_with fail
      exact bodyPost_ret (v := .int .i64 ((fs.take i).sum : Nat)) (by simp [results, Try.results17, go_sem, *]) rfl ⟨rfl, rfl⟩

def RFindRel (w : World) (fs : List Nat) (a : Nat) (d : Nat) (v : Value) (wr : World) : Prop :=
  ∃ i : Nat, v = .int .i64 i ∧ i + d = fs.length ∧ (fs.take i).sum ≤ a ∧ w = wr

set_option maxHeartbeats 4000000 in
theorem rfind_c {w : World} {B p g o c : Nat} {fs : List Nat} {fx : Bool} (h : Ref w B p g o c fs fx) (a : Nat) (ha : a ≤ 4294967295) : Calls Try.prog 18 #[.pointer (some ⟨p, 0, none⟩), .int .i64 (a : Int)] w (Quiet (.int .i64 (find fs a : Nat)) w) := by
  have hsum := h.sum
  have hg64 := h.len
  obtain ⟨c0, c1, cf⟩ := Has.two h.hm
  have HR := Aside0.mk h
  clear h
  go_enter Try.func18, Try.ntmps18
  go_wp2_with fail
  go_loopg [5] fs.length (fun d v wr => RFindRel w fs a d v wr)
  case atStart => exact ⟨0, rfl, by simp, by simp, rfl⟩
  case round =>
    obtain ⟨i, rfl, hi, hr, rfl⟩ := hrel
    by_cases hlt : i < fs.length
    · go_wp2_with fail
      refine (sum_c HR.out (i + 1) (by omega)).mono ?_
      rintro e w1 ⟨rfl, rfl⟩
      have hts1 := take_sum_le fs (i + 1)
      obtain ⟨S, hS⟩ : ∃ S, (fs.take (i + 1)).sum = S := ⟨_, rfl⟩
      rw [hS]
      by_cases hrz : a < S
      · have e1 : decide ((a : Int) < (S : Int)) = true := by simp; omega
        have e2 : decide (a < S) = true := by simp; omega
        have hf := find_hit (a := a) hlt (by omega) (by omega)
        go_wp2_with fail
        exact bodyPost_ret (v := .int .i64 (i : Int)) (by simp [results, Try.results18, go_sem, *]) rfl ⟨by rw [hf], rfl⟩
      · have e1 : decide ((a : Int) < (S : Int)) = false := by simp; omega
        have e2 : decide (a < S) = false := by simp; omega
        cases gk with
        | zero => omega
        | succ gk =>
        go_wp2_with fail
        go_roundg gk
        case measure => omega
        case rel => exact ⟨i + 1, by go_num, by omega, by omega, rfl⟩
    · have hin : i = fs.length := by omega
      have hall : (fs.take i).sum = fs.sum := by rw [hin, List.take_length]
      have hf := find_miss (fs := fs) (a := a) (by omega)
      go_wp2_with fail
      exact bodyPost_ret (v := .int .i64 ((fs.length : Int) - 1)) (by simp [results, Try.results18, go_sem, *]) rfl ⟨by rw [hf]; congr 2; omega, rfl⟩
end Go.Proofs.Ytlcehlccaepncaa.Own
