/-
  The model's functions New, Learn, Len, Find by their contracts: what each computes and what it leaves of memory.
-/
import Derived.Test.YtlcehlccaepncaaProg
import Derived.Test.YtlcehlccaepncaaH
import Derived.Test.YtlcehlccaepncaaWMore
import Derived.Deep.QuietTactic
import Derived.BigQuiet
import Derived.WalkSpells
import Derived.WalkLawsBesides
import Derived.Deep.RegionHeld3
set_option linter.unusedVariables false
set_option linter.unusedSimpArgs false
namespace Go.Proofs.Ytlcehlccaepncaa.Own
open Go.RowKit Go.Proofs.YtlcehlccaepncaaW.PrintWords Go.Proofs.YtlcehlccaepncaaW.PrintMore Go.Proofs.Ytlcehlccaepncaa.H

theorem T44 : SlT Try.prog 44 23 (.int .u32 0) 1 4 := SlT.mk' Try.underlying44 (by kernel_rfl) rfl (by decide)
theorem T51 : SlT Try.prog 51 3 (.int .i64 0) 1 8 := SlT.mk' Try.underlying51 (by kernel_rfl) rfl (by decide)

def u32s (fs : List Nat) : List Value := fs.map (fun (n : Nat) => Value.int .u32 (n : Int))
def i64s (fs : List Nat) : List Value := fs.map (fun (n : Nat) => Value.int .i64 (n : Int))
theorem u32s_at {fs : List Nat} {j : Nat} (h : j < fs.length) : (u32s fs)[j]? = some (.int .u32 ((fs.getD j 0 : Nat) : Int)) := by simp [u32s, h]
theorem i64s_at {fs : List Nat} {j : Nat} (h : j < fs.length) : (i64s fs)[j]? = some (.int .i64 ((fs.getD j 0 : Nat) : Int)) := by simp [i64s, h]
theorem u32s_set (fs : List Nat) (i x : Nat) : u32s (fs.set i x) = (u32s fs).set i (.int .u32 (x : Int)) := by simp [u32s]
theorem i64s_set (fs : List Nat) (i x : Nat) : i64s (fs.set i x) = (i64s fs).set i (.int .i64 (x : Int)) := by simp [i64s]

/-- A row of one's own, opened: where it lies, and that it may be written. -/
theorem q_open {w : World} {base e n c : Nat} {A : Option Addr} {xs : List Value} (h : QRow w base e 1 (.slice A n c) n xs) (hn : 0 < n) :
    ∃ g o, A = some ⟨g, o, none⟩ ∧ base ≤ g ∧ (∀ j, j < n → w.cell? ⟨g, o + j, none⟩ = xs[j]?) ∧ (∀ j, w.frozen? ⟨g, j, none⟩ = false) ∧
      ∀ (i : Nat) (u : Value), i < n → QRow (w.setCell ⟨g, o + i, none⟩ u) base e 1 (.slice A n c) n (xs.set i u) := by
  obtain ⟨hl, h2⟩ := h
  rcases h2 with ⟨h0, _⟩ | ⟨g, off, cap, cur, he, hb, hh, hnc, hm, hs, ht⟩
  · omega
  · injection he with ha _ hc
    subst ha; subst hc
    simp only [Nat.mul_one] at *
    refine ⟨g, off, rfl, hb, fun j hj => ?_, fun j => blk_frozen hh j, fun i u hi => ⟨by simpa using hl, .inr ⟨g, off, c, cur.setIfInBounds (off + i) u, by simp, hb, blk_set hh _ _, hnc, hm, by simpa using hs, ?_⟩⟩⟩
    · rw [blk_cell hh, ← ht, List.getElem?_take, if_pos hj, List.getElem?_drop, Array.getElem?_toList]
    · simp only [Nat.mul_one, Array.toList_setIfInBounds]
      rw [List.drop_set, if_neg (by omega), List.take_set, ht]
      congr 1
      omega

/-- How often symbols come: a model's frequencies. -/
structure Good (fs : List Nat) : Prop where
  len : 1 ≤ fs.length ∧ fs.length ≤ 64
  sum : fs.sum ≤ 8192
  pos : ∀ x ∈ fs, 1 ≤ x
theorem sum_ge {fs : List Nat} {i : Nat} : fs.getD i 0 ≤ fs.sum := by
  induction fs generalizing i with
  | nil => simp
  | cons x xs ih =>
    cases i with
    | zero => simp
    | succ i => have := ih (i := i); simp at this ⊢; omega

/-- A model at block p. -/
structure Mod (w : World) (B p g o c : Nat) (fs : List Nat) (fx : Bool) : Prop where
  good : Good fs
  hp : B ≤ p
  hm : Has w p 50 [.slice (some ⟨g, o, none⟩) fs.length c, .int .u32 (fs.sum : Int), .bool fx]
  hq : QRow w B 23 1 (.slice (some ⟨g, o, none⟩) fs.length c) fs.length (u32s fs)

section
variable {S : Nat → Prop} {w w1 : World} {B p g o c : Nat} {fs : List Nat} {fx : Bool}
theorem Mod.row (h : Mod w B p g o c fs fx) : B ≤ g ∧ ∃ cur, w.heap[g]? = some (.cells cur 23 (0, 0)) := q_typed h.hq g rfl
theorem Mod.ne (h : Mod w B p g o c fs fx) : p ≠ g := by
  intro e
  subst e
  obtain ⟨_, cur, hc⟩ := h.row
  have := h.hm.out.symm.trans hc
  simp at this
theorem Mod.glt (h : Mod w B p g o c fs fx) : g < w.heap.size := q_lt h.hq g rfl
theorem Mod.but (h : Mod w B p g o c fs fx) (hb : But S w w1) (hp : ¬ S p) (hg : ¬ S g) : Mod w1 B p g o c fs fx :=
  ⟨h.good, h.hp, h.hm.but hb hp, q_but h.hq hb (fun k hk => by simp [Value.ownBlock] at hk; subst hk; exact hg)⟩
theorem Mod.below (h : Mod w B p g o c fs fx) (hb : Below w.heap.size w w1) : Mod w1 B p g o c fs fx :=
  h.but (S := fun _ => False) (But.of_below hb) (fun h => h) (fun h => h)
end

def NewPost (w : World) (n : Nat) (e : Ending) (w' : World) : Prop := ∃ p g o c, e = .returned (.tuple #[.pointer (some ⟨p, 0, none⟩), .int .i64 0]) ∧ Mod w' w.heap.size p g o c (List.replicate n 1) false ∧ Below w.heap.size w w'

def NewRel (w : World) (n p : Nat) (d : Nat) (v : Value) (wr : World) : Prop :=
  ∃ (i : Nat) (cs : List Value), v = .int .i64 i ∧ i + d = n ∧ Has wr p 50 [.slice (some ⟨w.heap.size, 0, none⟩) n n, .int .u32 (n : Int), .bool false] ∧ Has wr w.heap.size 23 cs ∧ cs.length = n ∧ cs.take i = u32s (List.replicate i 1) ∧ Below w.heap.size w wr

theorem take_set_snoc {α : Type} {cs : List α} {i : Nat} (h : i < cs.length) (v : α) : (cs.set i v).take (i + 1) = cs.take i ++ [v] := by
  rw [List.take_succ_eq_append_getElem (by simpa using h)]
  simp only [List.take_set, List.getElem_set_self]
  rw [List.set_eq_of_length_le (by simp; omega)]

set_option maxHeartbeats 2000000 in
theorem new_c (n : Nat) (h : 1 ≤ n ∧ n ≤ 64) (w : World) : Calls Try.prog 7 #[.int .i64 (n : Int)] w (NewPost w n) := by
  obtain ⟨i, hi, hz, hs, hb⟩ := T44.hi
  have d1 : decide ((n : Int) < 1) = false := by simp; omega
  have d2 : decide (64 < (n : Int)) = false := by simp; omega
  have d3 : decide (64 < n) = false := by simp; omega
  go_enter Try.func7, Try.ntmps7
  go_wp2_with (at_make; refine wpList_make_full _ rfl _ _ 44 rfl w.heap.size 23 i _ 1 Try.underlying44 hi hz hs .i64 .i64 _ _ n rfl rfl rfl rfl ?b2 ?b3 ?b4 ?_)
  case b2 => rw [hb]; omega
  case b3 => unfold maxLen; omega
  case b4 => exact Nat.le_refl _
  intro w1 hown hg
  obtain ⟨g', cap, cur, hv, hbg, hcur, hnc, hcm, hsz, htk⟩ := hown.2.resolve_left (by simp)
  simp only [Value.slice.injEq, Option.some.injEq, Addr.mk.injEq, and_true, true_and] at hv
  obtain ⟨rfl, rfl⟩ := hv
  have hh : Has w1 w.heap.size 23 cur.toList := by simpa [Has] using hcur
  have hb1 : Below w.heap.size w w1 := (Below.refl _ w).grown hg (Nat.le_refl _) (fun k hk => by simp at hk)
  have H1 := Aside0.mk (And.intro hh (And.intro hb1 hsz))
  clear hown hg hcur hnc hcm hsz htk hh hb1 hi hz hs hb hbg
  go_wp2_with fail
  go_loopg [23] n (fun d v wr => NewRel w n w1.heap.size d v wr)
  case atStart => exact ⟨0, cur.toList, rfl, by simp, Has.new w1 50 [_, _, _], H1.out.1.alloc _, by have := H1.out.2.2; simp at this ⊢; omega, by simp [u32s], H1.out.2.1.alloc H1.out.2.1.size _⟩
  case round =>
    obtain ⟨j, cs, rfl, hj, hp, hcs, hl, ht, hb⟩ := hrel
    have hne : w.heap.size ≠ w1.heap.size := fun e => by rw [← e] at hp; have := (hp.same hcs).2; omega
    obtain ⟨c0, c1, c2, cf⟩ := hp.three
    by_cases hlt : j < n
    · cases gk with
      | zero => omega
      | succ gk =>
      have hc : wr.cell? ⟨w.heap.size, j, none⟩ = some (cs[j]'(by omega)) := by rw [hcs.cell]; simp
      have hf := hcs.frozen j
      go_wp2_with fail
      go_roundg gk
      case measure => omega
      case rel => exact ⟨j + 1, _, by go_num, by omega, hp.far (Ne.symm hne) _, hcs.set j _, by simpa using hl, by rw [take_set_snoc (by omega), ht]; simp [u32s, List.replicate_succ'], hb.setCell (Nat.le_refl _) _⟩
    · go_wp2_with fail
      go_ret2
      obtain rfl : j = n := by omega
      rw [List.take_of_length_le (by omega)] at ht
      have hm : Mod wr w.heap.size w1.heap.size w.heap.size 0 j (List.replicate j 1) false := by
        refine ⟨⟨by simpa using h, by simp; omega, by simp⟩, H1.out.2.1.size, by simpa using hp, ?_⟩
        have := q_has (w := wr) (base := w.heap.size) (xs := u32s (List.replicate j 1)) (rest := []) (n := j) (cap := j) (size := 1) (by rw [List.append_nil, ← ht]; exact hcs) (Nat.le_refl _) (by simp [u32s]) (Nat.le_refl _) (by simp [u32s]) (by unfold maxLen; omega)
        simpa using this
      exact ⟨w1.heap.size, w.heap.size, 0, j, rfl, hm, hb⟩
theorem new_bad (n : Int) (h : n < 1 ∨ n > 64) (w : World) : Calls Try.prog 7 #[.int .i64 n] w fun e w' => e = .returned (.tuple #[.pointer none, .int .i64 1]) ∧ w = w' := by
  have h' : decide (n < 1) = true ∨ (decide (n < 1) = false ∧ decide (64 < n) = true) := by simp only [decide_eq_true_eq, decide_eq_false_iff_not]; omega
  clear h
  rcases h' with d1 | ⟨d1, d2⟩
  all_goals
    go_enter Try.func7, Try.ntmps7
    go_wp2_with fail
    go_ret2
    exact ⟨rfl, rfl⟩
end Go.Proofs.Ytlcehlccaepncaa.Own
