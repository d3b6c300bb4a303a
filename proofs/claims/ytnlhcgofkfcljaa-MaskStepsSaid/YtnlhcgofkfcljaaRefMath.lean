/-
  The document's answer for steps and reach, as plain functions of lists: the same as mask's.
-/
import Derived.Test.YtnlhcgofkfcljaaOwn
import Derived.Test.YtnlhcgofkfcljaaPMaskStepsx3
import Derived.Test.YtnlhcgofkfcljaaPMaskStepsx4
set_option linter.unusedVariables false
set_option linter.unusedSimpArgs false
namespace Go.Proofs.Ytnlhcgofkfcljaa.Own
open Go.RowKit Go.Proofs.YtnlhcgofkfcljaaW.PrintWords Go.Proofs.YtnlhcgofkfcljaaW.PrintLast Go.Proofs.YtnlhcgofkfcljaaW.PrintMore Go.Proofs.Ytnlhcgofkfcljaa.H Go.Proofs.Ytnlhcgofkfcljaa.PMaskArgs

theorem ref_l1 (l out : List Int) (q x : Int) (b : Nat) (hb : b < 21) (hl : Ceils l) (k d : Nat) : ∀ (i : Nat) (t : Int), i + d = 21 →
    PMaskSteps.sidebandref10_Steps.l1 (k + d) l q x out (b : Int) t (i : Int) = PMaskSteps.sidebandref10_Steps.l1 k l q x out (b : Int) (thr b (l.drop i) i t) (21 : Int) := by
  obtain ⟨hl, ok⟩ := hl
  induction d with
  | zero =>
    intro i t hi
    obtain rfl : i = 21 := by omega
    rw [List.drop_of_length_le (by omega)]; rfl
  | succ d ih =>
    intro i t hi
    have hlt : i < l.length := by omega
    have ho := ok _ (rd_mem hlt)
    have hih := fun t => ih (i + 1) t (by omega)
    rw [← Nat.add_assoc]
    simp only [PMaskSteps.sidebandref10_Steps.l1]
    rw [if_pos (by omega), if_pos (by omega), if_pos (by omega)]
    rw [wrap_in (x := (i : Int) + 1) (by omega) (by omega), wrap_in (x := (b : Int) - i) (by omega) (by omega), wrap_in (x := (i : Int) - b) (by omega) (by omega), wrap_in (x := 2 * ((b : Int) - i)) (by omega) (by omega), wrap_in (x := 3 * ((i : Int) - b)) (by omega) (by omega)]
    rw [wrap_in (x := rd l i - 3 * ((i : Int) - b)) (by omega) (by omega), wrap_in (x := rd l i - 2 * ((b : Int) - i)) (by omega) (by omega)]
    rw [show ((i : Int) + 1) = ((i + 1 : Nat) : Int) by omega, hih, hih, hih, rd_drop hlt]
    simp only [thr]
    rw [show ((i + 1 : Nat) : Int) = (i : Int) + 1 by omega]
    have e : mx t (rd l i - mx (2 * ((b : Int) - i)) (3 * ((i : Int) - b))) = (if (i : Int) > b then (if rd l i - 3 * ((i : Int) - b) > t then rd l i - 3 * ((i : Int) - b) else t) else (if rd l i - 2 * ((b : Int) - i) > t then rd l i - 2 * ((b : Int) - i) else t)) := by
      unfold mx; (repeat' split) <;> omega
    rw [e]
    (repeat' split) <;> rfl

theorem ref_l0 (l : List Int) (q x : Int) (hl : Ceils l) (hq : 1 ≤ q ∧ q ≤ 10) (hx : 0 ≤ x ∧ x ≤ 31) (d : Nat) : ∀ (k b : Nat), b + d = 21 → d * 24 < k →
    PMaskSteps.sidebandref10_Steps.l0 k l q x ((List.range b).map (stepOf l q x)) (b : Int) = some (stepsL l q x) := by
  induction d with
  | zero =>
    intro k b hb hk
    obtain ⟨k, rfl⟩ : ∃ m, k = m + 1 := ⟨k - 1, by omega⟩
    obtain rfl : b = 21 := by omega
    simp only [PMaskSteps.sidebandref10_Steps.l0]; rw [if_neg (by omega)]; rfl
  | succ d ih =>
    intro k b hb hk
    obtain ⟨k, rfl⟩ : ∃ m, k = ((m + 1) + 1) + 21 + 1 := ⟨k - 24, by omega⟩
    have h1 := ref_l1 l ((List.range b).map (stepOf l q x)) q x b (by omega) hl (k + 1 + 1) 21 0 0 (by omega)
    have hih := ih k (b + 1) (by omega) (by omega)
    obtain ⟨t0, t1, t2, t3, t4⟩ := thr0 hl.1 hl.2 (b := b) (by omega)
    have hll := hl.1
    rw [PMaskSteps.sidebandref10_Steps.l0, if_pos (by omega)]
    rw [show (0 : Int) = ((0 : Nat) : Int) by omega] at h1 ⊢
    rw [h1]
    simp only [List.drop_zero, Int.ofNat_zero] at *
    rw [PMaskSteps.sidebandref10_Steps.l1, if_neg (by omega), if_pos (by omega), if_pos (by omega)]
    rw [wrap_in (x := thr b l 0 0 - q) (by omega) (by omega), wrap_in (x := thr b l 0 0 - q + x) (by omega) (by omega), wrap_in (x := rd l b - 12) (by omega) (by omega)]
    have hw : wrap64 ((b : Int) + 1) = ((b + 1 : Nat) : Int) := by rw [wrap_in (by omega) (by omega)]; omega
    rw [List.range_succ, List.map_append] at hih
    simp only [PMaskSteps.sidebandref10_Steps.j2, hw]
    have hs : stepOf l q x b = mn (mx (mx (thr b l 0 0 - q + x) (rd l b - 12)) 0) (rd l b) := rfl
    have hlen : ((List.range b).map (stepOf l q x)).length < 17592186044416 := by simp; omega
    simp only [List.map_cons, List.map_nil, hs] at hih
    by_cases c1 : thr b l 0 0 - q + x < rd l b - 12
    · rw [if_pos c1]
      have e1 : mx (thr b l 0 0 - q + x) (rd l b - 12) = rd l b - 12 := by unfold mx; rw [if_pos c1]
      rw [e1] at hih
      by_cases c2 : rd l b - 12 < 0
      · rw [if_pos c2, if_pos (by omega), if_pos (by omega), if_neg (by omega), if_pos hlen, ← hih]
        have : mn (mx (rd l b - 12) 0) (rd l b) = 0 := by unfold mx mn; (repeat' split) <;> omega
        rw [this]
      · rw [if_neg c2, if_pos (by omega), if_pos (by omega), if_neg (by omega), if_pos hlen, ← hih]
        have : mn (mx (rd l b - 12) 0) (rd l b) = rd l b - 12 := by unfold mx mn; (repeat' split) <;> omega
        rw [this]
    · rw [if_neg c1]
      have e1 : mx (thr b l 0 0 - q + x) (rd l b - 12) = thr b l 0 0 - q + x := by unfold mx; rw [if_neg c1]
      rw [e1] at hih
      by_cases c2 : thr b l 0 0 - q + x < 0
      · rw [if_pos c2, if_pos (by omega), if_pos (by omega), if_neg (by omega), if_pos hlen, ← hih]
        have : mn (mx (thr b l 0 0 - q + x) 0) (rd l b) = 0 := by unfold mx mn; (repeat' split) <;> omega
        rw [this]
      · rw [if_neg c2, if_pos (by omega), if_pos (by omega)]
        by_cases c3 : thr b l 0 0 - q + x > rd l b
        · rw [if_pos c3, if_pos hlen, ← hih]
          have : mn (mx (thr b l 0 0 - q + x) 0) (rd l b) = rd l b := by unfold mx mn; (repeat' split) <;> omega
          rw [this]
        · rw [if_neg c3, if_pos hlen, ← hih]
          have : mn (mx (thr b l 0 0 - q + x) 0) (rd l b) = thr b l 0 0 - q + x := by unfold mx mn; (repeat' split) <;> omega
          rw [this]

theorem ref_steps (l : List Int) (q x : Int) (hl : Ceils l) (hq : 1 ≤ q ∧ q ≤ 10) (hx : 0 ≤ x ∧ x ≤ 31) : PMaskSteps.sidebandref10_Steps.f 600 l q x = some (stepsL l q x) := by
  have := ref_l0 l q x hl hq hx 21 600 0 (by omega) (by omega)
  simpa [PMaskSteps.sidebandref10_Steps.f] using this

/-- How many lines a band has. -/
def wide (i : Int) : Int := if i = 20 then 160 else if i = 19 then 96 else if i = 18 then 64 else if i ≥ 16 then 32 else if i ≥ 12 then 16 else if i ≥ 8 then 8 else 4
def edgesFrom : Nat → List Int → Int → Int → List Int
  | 0, xs, _, _ => xs
  | d + 1, xs, at_, i => edgesFrom d (xs ++ [at_ + wide i]) (at_ + wide i) (i + 1)

theorem ref_edges_one (k : Nat) (xs : List Int) (at_ i : Int) (h0 : 0 ≤ i) (h1 : i < 21) (hx : xs.length < 100) (ha : 0 ≤ at_ ∧ at_ ≤ 100000) :
    PMaskSteps.sidebandref04_Edges.l0 (k + 5) xs at_ i = PMaskSteps.sidebandref04_Edges.l0 k (xs ++ [at_ + wide i]) (at_ + wide i) (i + 1) := by
  have hl : xs.length < 17592186044416 := by omega
  have hw : wrap64 (i + 1) = i + 1 := wrap_in (by omega) (by omega)
  have hy : ∀ y : Int, 0 ≤ y → y ≤ 1000 → wrap64 (at_ + y) = at_ + y := fun y h0 h1 => wrap_in (by omega) (by omega)
  simp only [PMaskSteps.sidebandref04_Edges.l0, PMaskSteps.sidebandref04_Edges.j1, PMaskSteps.sidebandref04_Edges.j2, PMaskSteps.sidebandref04_Edges.j3, PMaskSteps.sidebandref04_Edges.j4, if_pos hl, hw]
  rw [if_pos h1, hy 160 (by omega) (by omega), hy 96 (by omega) (by omega), hy 64 (by omega) (by omega), hy 32 (by omega) (by omega), hy 16 (by omega) (by omega), hy 8 (by omega) (by omega), hy 4 (by omega) (by omega)]
  unfold wide
  by_cases c20 : i = 20
  · subst c20; rfl
  · by_cases c19 : i = 19
    · subst c19; rfl
    · by_cases c18 : i = 18
      · subst c18; rfl
      · rw [if_neg c20, if_neg c19, if_neg c18]
        by_cases c16 : i ≥ 16
        · have c12 : i ≥ 12 := by omega
          have c8 : i ≥ 8 := by omega
          simp only [if_neg c20, if_neg c19, if_neg c18, if_pos c16, if_pos c12, if_pos c8]
        · by_cases c12 : i ≥ 12
          · have c8 : i ≥ 8 := by omega
            simp only [if_neg c20, if_neg c19, if_neg c18, if_neg c16, if_pos c12, if_pos c8]
          · by_cases c8 : i ≥ 8
            · simp only [if_neg c20, if_neg c19, if_neg c18, if_neg c16, if_neg c12, if_pos c8]
            · simp only [if_neg c20, if_neg c19, if_neg c18, if_neg c16, if_neg c12, if_neg c8]

theorem wide_le (i : Int) : 0 ≤ wide i ∧ wide i ≤ 160 := by unfold wide; (repeat' split) <;> omega

theorem ref_edges_l0 (d : Nat) : ∀ (k : Nat) (xs : List Int) (at_ i : Int), k = 1 + 5 * d → 0 ≤ i → i + d = 21 → xs.length + d < 100 → 0 ≤ at_ → at_ + 160 * d ≤ 100000 →
    PMaskSteps.sidebandref04_Edges.l0 k xs at_ i = some (edgesFrom d xs at_ i) := by
  induction d with
  | zero =>
    intro k xs at_ i hk h0 h1 h2 h3 h4
    subst hk
    simp only [PMaskSteps.sidebandref04_Edges.l0, edgesFrom]
    rw [if_neg (by omega)]
  | succ d ih =>
    intro k xs at_ i hk h0 h1 h2 h3 h4
    have hw := wide_le i
    obtain rfl : k = (1 + 5 * d) + 5 := by omega
    rw [ref_edges_one _ _ _ _ h0 (by omega) (by omega) (by omega)]
    exact ih _ _ _ _ rfl (by omega) (by omega) (by simp; omega) (by omega) (by omega)

theorem edges_eq : edgesFrom 21 [0] 0 0 = edgesL := by simp [edgesFrom, wide, edgesL]
theorem ref_edges_f (k : Nat) : PMaskSteps.sidebandref04_Edges.f k = PMaskSteps.sidebandref04_Edges.l0 k [0] 0 0 := rfl
theorem ref_edges (k : Nat) (hk : k = 106) : PMaskSteps.sidebandref04_Edges.f k = some edgesL := by
  rw [ref_edges_f, ref_edges_l0 21 k [0] 0 0 (by omega) (by omega) (by omega) (by simp) (by omega) (by omega), edges_eq]

theorem ref_reach_l0 (E s l : List Int) (hE : E.length = 22) (hs : Ceils s) (hl : Ceils l) (d : Nat) : ∀ (k i : Nat) (sum : Int), i + d = 21 → d < k →
    PMaskSteps.sidebandref10_Reach.l0 k l s E sum (i : Int) = some (reachFrom E s l d i sum) := by
  obtain ⟨hs, os⟩ := hs
  obtain ⟨hl, ol⟩ := hl
  induction d with
  | zero =>
    intro k i sum hi hk
    obtain ⟨k, rfl⟩ : ∃ m, k = m + 1 := ⟨k - 1, by omega⟩
    simp only [PMaskSteps.sidebandref10_Reach.l0]; rw [if_neg (by omega)]; rfl
  | succ d ih =>
    intro k i sum hi hk
    obtain ⟨k, rfl⟩ : ∃ m, k = m + 1 := ⟨k - 1, by omega⟩
    have h1 := ol _ (rd_mem (l := l) (i := i) (by omega))
    have h2 := os _ (rd_mem (l := s) (i := i) (by omega))
    have hw : wrap64 ((i : Int) + 1) = ((i + 1 : Nat) : Int) := by rw [wrap_in (by omega) (by omega)]; omega
    simp only [PMaskSteps.sidebandref10_Reach.l0, hw]
    rw [if_pos (by omega), if_pos (by omega), if_pos (by omega), if_pos (by omega), if_pos (by omega)]
    by_cases hc : rd s (i : Int) < rd l (i : Int)
    · rw [if_pos hc, if_pos (by omega), if_pos (by omega), if_pos (by omega), if_pos (by omega), ih k (i + 1) _ (by omega) (by omega)]
      simp only [reachFrom]; rw [if_pos hc]
    · rw [if_neg hc, if_pos (by omega), if_pos (by omega), if_pos (by omega), ih k (i + 1) _ (by omega) (by omega)]
      simp only [reachFrom]; rw [if_neg hc]

theorem ref_reach (k : Nat) (hk : k = 106) (l s : List Int) (hl : Ceils l) (hs : Ceils s) : PMaskSteps.sidebandref10_Reach.f k l s = some (reachFrom edgesL s l 21 0 0) := by
  unfold PMaskSteps.sidebandref10_Reach.f
  rw [ref_edges k hk]
  simp only [Option.bind_some]
  exact ref_reach_l0 edgesL s l rfl hs hl 21 k 0 0 (by omega) (by omega)

theorem stepsL_ceils (l : List Int) (q x : Int) (hl : Ceils l) (hq : 1 ≤ q ∧ q ≤ 10) (hx : 0 ≤ x ∧ x ≤ 31) : Ceils (stepsL l q x) := by
  refine ⟨stepsL_len l q x, fun y hy => ?_⟩
  obtain ⟨b, hb, rfl⟩ := List.mem_map.1 hy
  have hb : b < 21 := by simpa using hb
  have := thr0 hl.1 hl.2 hb
  unfold stepOf mn mx; omega

theorem right_of {l : List Int} (h : Ceils l) : rightB l = true := by simp [rightB, okB_iff.2 h.2, h.1]

end Go.Proofs.Ytnlhcgofkfcljaa.Own
