/- MaskArgs, as a law over lists and whole numbers: for every list of whole numbers and every two numbers the printed law answers true. No condition. -/
import Derived.Test.YtnlhcgofkfcljaaPMaskArgsx2
namespace Go.Proofs.Ytnlhcgofkfcljaa.PMaskArgs
open Go.RowKit Go.Proofs.YtnlhcgofkfcljaaW.PrintWords Go.Proofs.YtnlhcgofkfcljaaW.PrintLast Go.Proofs.YtnlhcgofkfcljaaW.PrintMore

/-! Plain laws of mask's printed functions: lists and whole numbers. -/

theorem wrap_in {x : Int} (h0 : -9223372036854775808 ≤ x) (h1 : x ≤ 9223372036854775807) : wrap64 x = x := by
  unfold wrap64; omega

theorem rd_drop {l : List Int} {i : Nat} (h : i < l.length) : l.drop i = rd l (i : Int) :: l.drop (i + 1) := by
  rw [List.drop_eq_getElem_cons h]; simp [rd, h]

theorem rd_mem {l : List Int} {i : Nat} (h : i < l.length) : rd l (i : Int) ∈ l := by
  have : rd l (i : Int) = l[i] := by simp [rd, h]
  rw [this]; exact List.getElem_mem h

/-- Each number is a ceiling. -/
def okB (l : List Int) : Bool := l.all fun x => decide (0 ≤ x) && decide (x ≤ 26)
def rightB (l : List Int) : Bool := okB l && (l.length == 21)

theorem okB_iff {l : List Int} : okB l = true ↔ ∀ x ∈ l, 0 ≤ x ∧ x ≤ 26 := by simp [okB]

theorem right_l0 (l : List Int) (hlen : l.length ≤ 1000000000000000) (d : Nat) : ∀ (k i : Nat), i + d = l.length → d < k →
    energy_Right.l0 k l l (l.length : Int) (i : Int) = some (okB (l.drop i) && (l.length == 21)) := by
  induction d with
  | zero =>
    intro k i hi hk
    obtain ⟨k, rfl⟩ : ∃ m, k = m + 1 := ⟨k - 1, by omega⟩
    simp only [energy_Right.l0]; rw [if_neg (by omega)]
    have : i = l.length := by omega
    subst this
    simp only [okB, List.drop_length, List.all_nil, Bool.true_and, Option.some.injEq]
    rw [Bool.eq_iff_iff]; simp; omega
  | succ d ih =>
    intro k i hi hk
    obtain ⟨k, rfl⟩ : ∃ m, k = m + 1 := ⟨k - 1, by omega⟩
    have hlt : i < l.length := by omega
    simp only [energy_Right.l0]
    rw [if_pos (by omega), if_pos (by omega), if_pos (by omega)]
    have hd := rd_drop hlt
    by_cases h0 : rd l (i : Int) < 0
    · rw [if_pos h0, hd]; simp [okB]; omega
    · rw [if_neg h0]
      by_cases h1 : rd l (i : Int) > 26
      · rw [if_pos h1, hd]; simp [okB]; omega
      · rw [if_neg h1, wrap_in (by omega) (by omega)]
        have := ih k (i + 1) (by omega) (by omega)
        rw [show ((i : Int) + 1) = ((i + 1 : Nat) : Int) by omega, this, hd]
        have e0 : decide (0 ≤ rd l (i : Int)) = true := by simp; omega
        have e1 : decide (rd l (i : Int) ≤ 26) = true := by simp; omega
        simp only [okB, List.all_cons, e0, e1, Bool.and_true, Bool.true_and]

theorem right_f (l : List Int) (hlen : l.length ≤ 1000000000000000) (k : Nat) (hk : l.length < k) : energy_Right.f k l = some (rightB l) := by
  have := right_l0 l hlen l.length k 0 (by omega) hk
  simpa [energy_Right.f, rightB] using this

/-- A band's threshold: from place j on, t being the greatest till now. -/
def thr (b : Int) : List Int → Int → Int → Int
  | [], _, t => t
  | n :: l, j, t => thr b l (j + 1) (mx t (n - mx (2 * (b - j)) (3 * (j - b))))

theorem thr_ge (b : Int) (l : List Int) : ∀ j t, t ≤ thr b l j t := by
  induction l with
  | nil => intro j t; exact Int.le_refl _
  | cons n l ih =>
    intro j t
    refine Int.le_trans ?_ (ih (j + 1) _)
    unfold mx; omega

theorem thr_le (b : Int) (l : List Int) : ∀ j t, (∀ x ∈ l, 0 ≤ x ∧ x ≤ 26) → t ≤ 26 → thr b l j t ≤ 26 := by
  induction l with
  | nil => intro j t _ ht; exact ht
  | cons n l ih =>
    intro j t h ht
    refine ih (j + 1) _ (fun x hx => h x (by simp [hx])) ?_
    have := h n (by simp)
    unfold mx; omega

theorem thr_at (b : Nat) (l : List Int) : ∀ (j : Nat) t, j ≤ b → b < j + l.length → rd l ((b - j : Nat) : Int) ≤ thr b l j t := by
  induction l with
  | nil => intro j t h1 h2; simp at h2; omega
  | cons n l ih =>
    intro j t h1 h2
    by_cases e : j = b
    · subst e
      have := thr_ge (j : Int) l (j + 1) (mx t (n - mx (2 * ((j : Int) - j)) (3 * ((j : Int) - j))))
      simp only [thr]
      refine Int.le_trans ?_ this
      simp [rd]; unfold mx; omega
    · have := ih (j + 1) (mx t (n - mx (2 * ((b : Int) - j)) (3 * ((j : Int) - b)))) (by omega) (by simp at h2; omega)
      simp only [thr]
      have e2 : rd (n :: l) ((b - j : Nat) : Int) = rd l ((b - (j + 1) : Nat) : Int) := by
        have : b - j = (b - (j + 1)) + 1 := by omega
        rw [this]; simp [rd]
      rw [e2]
      simpa using this

theorem thr_l0 (b : Nat) (l : List Int) (hl : l.length = 21) (hb : b < 21) (ok : ∀ x ∈ l, 0 ≤ x ∧ x ≤ 26) (d : Nat) : ∀ (k i : Nat) (t : Int), i + d = 21 → d < k →
    mask_threshold.l0 k (b : Int) t l (l.length : Int) (i : Int) = some (thr b (l.drop i) i t) := by
  induction d with
  | zero =>
    intro k i t hi hk
    obtain ⟨k, rfl⟩ : ∃ m, k = m + 1 := ⟨k - 1, by omega⟩
    simp only [mask_threshold.l0]; rw [if_neg (by omega), List.drop_of_length_le (by omega)]; rfl
  | succ d ih =>
    intro k i t hi hk
    obtain ⟨k, rfl⟩ : ∃ m, k = m + 1 := ⟨k - 1, by omega⟩
    have hlt : i < l.length := by omega
    have ho := ok _ (rd_mem hlt)
    simp only [mask_threshold.l0]
    rw [if_pos (by omega), if_pos (by omega), if_pos (by omega)]
    rw [wrap_in (x := (i : Int) + 1) (by omega) (by omega), wrap_in (x := (b : Int) - i) (by omega) (by omega), wrap_in (x := (i : Int) - b) (by omega) (by omega), wrap_in (x := 2 * ((b : Int) - i)) (by omega) (by omega), wrap_in (x := 3 * ((i : Int) - b)) (by omega) (by omega)]
    rw [wrap_in (x := rd l i - mx (2 * ((b : Int) - i)) (3 * ((i : Int) - b))) (by unfold mx; omega) (by unfold mx; omega)]
    rw [show ((i : Int) + 1) = ((i + 1 : Nat) : Int) by omega, ih k (i + 1) _ (by omega) (by omega), rd_drop hlt]
    simp [thr]

theorem threshold_f (b : Nat) (l : List Int) (hl : l.length = 21) (hb : b < 21) (ok : ∀ x ∈ l, 0 ≤ x ∧ x ≤ 26) (k : Nat) (hk : 21 < k) :
    mask_threshold.f k l (b : Int) = some (thr b l 0 0) := by
  have := thr_l0 b l hl hb ok 21 k 0 0 (by omega) hk
  simpa [mask_threshold.f] using this

/-- One band's step. -/
def stepOf (l : List Int) (q x : Int) (b : Nat) : Int :=
  mn (mx (mx (thr b l 0 0 - q + x) (rd l b - 12)) 0) (rd l b)

theorem thr0 {l : List Int} (hl : l.length = 21) (ok : ∀ x ∈ l, 0 ≤ x ∧ x ≤ 26) {b : Nat} (hb : b < 21) : 0 ≤ thr b l 0 0 ∧ thr b l 0 0 ≤ 26 ∧ rd l b ≤ thr b l 0 0 ∧ 0 ≤ rd l b ∧ rd l b ≤ 26 := by
  have h1 := thr_ge b l 0 0
  have h2 := thr_le b l 0 0 ok (by omega)
  have h3 := thr_at b l 0 0 (by omega) (by omega)
  have h4 := ok _ (rd_mem (l := l) (i := b) (by omega))
  simp at h3
  exact ⟨h1, h2, h3, h4⟩

theorem set_build (f : Nat → Int) (i : Nat) (out : List Int) (h : i < out.length) (hp : out.take i = (List.range i).map f) :
    (out.set i (f i)).take (i + 1) = (List.range (i + 1)).map f := by
  rw [List.take_succ_eq_append_getElem (by simpa using h)]
  simp only [List.take_set, List.getElem_set_self, List.range_succ, List.map_append, List.map_cons, List.map_nil]
  rw [List.set_eq_of_length_le (by simp; omega), hp]

theorem steps_l0 (l : List Int) (q x : Int) (hl : l.length = 21) (ok : ∀ x ∈ l, 0 ≤ x ∧ x ≤ 26) (hq : 1 ≤ q ∧ q ≤ 10) (hx : 0 ≤ x ∧ x ≤ 31) (d : Nat) : ∀ (k i : Nat) (out : List Int),
    i + d = 21 → d + 22 < k → out.length = 21 → out.take i = (List.range i).map (stepOf l q x) →
    mask_Steps.l0 k l q x out l (l.length : Int) (i : Int) = some ((List.range 21).map (stepOf l q x), 0) := by
  induction d with
  | zero =>
    intro k i out hi hk ho hp
    obtain ⟨k, rfl⟩ : ∃ m, k = m + 1 := ⟨k - 1, by omega⟩
    obtain rfl : i = 21 := by omega
    simp only [mask_Steps.l0]; rw [if_neg (by omega), ← hp, List.take_of_length_le (by omega)]
  | succ d ih =>
    intro k i out hi hk ho hp
    obtain ⟨k, rfl⟩ : ∃ m, k = m + 1 := ⟨k - 1, by omega⟩
    have hlt : i < l.length := by omega
    obtain ⟨t0, t1, t2, t3, t4⟩ := thr0 hl ok (b := i) (by omega)
    simp only [mask_Steps.l0]
    rw [if_pos (by omega), if_pos (by omega), if_pos (by omega), threshold_f i l hl (by omega) ok k (by omega)]
    simp only [Option.bind_some]
    rw [if_pos (by omega)]
    rw [wrap_in (x := thr i l 0 0 - q) (by omega) (by omega), wrap_in (x := thr i l 0 0 - q + x) (by omega) (by omega), wrap_in (x := rd l i - 12) (by omega) (by omega), wrap_in (x := (i : Int) + 1) (by omega) (by omega)]
    rw [show ((i : Int) + 1) = ((i + 1 : Nat) : Int) by omega]
    refine ih k (i + 1) _ (by omega) (by omega) (by simpa using ho) ?_
    have := set_build (stepOf l q x) i out (by omega) hp
    simpa [stepOf] using this

theorem steps_f (l : List Int) (q x : Int) (hl : l.length = 21) (ok : ∀ x ∈ l, 0 ≤ x ∧ x ≤ 26) (hq : 1 ≤ q ∧ q ≤ 10) (hx : 0 ≤ x ∧ x ≤ 31) (k : Nat) (hk : 60 < k) :
    mask_Steps.f k l q x = some ((List.range 21).map (stepOf l q x), 0) := by
  have hr : rightB l = true := by simp [rightB, okB_iff.2 ok, hl]
  unfold mask_Steps.f
  rw [right_f l (by omega) k (by omega), hr]
  simp only [Option.bind_some, if_true]
  rw [if_neg (by omega), if_neg (by omega), if_neg (by omega)]
  obtain ⟨k, rfl⟩ : ∃ m, k = m + 1 := ⟨k - 1, by omega⟩
  have e : decide (x > 31) = false := by simp; omega
  simp only [mask_Steps.j0, e]
  rw [if_neg (by simp), if_pos (by omega), if_pos (by omega)]
  exact steps_l0 l q x hl ok hq hx 21 k 0 _ (by omega) (by omega) (by simp [hl]) (by simp)

theorem steps_not (l : List Int) (q x : Int) (hlen : l.length ≤ 1000000000000000) (h : rightB l = false ∨ q < 1 ∨ q > 10 ∨ x < 0 ∨ x > 31) (k : Nat) (hk : l.length + 2 < k) :
    mask_Steps.f k l q x = some ([], 1) := by
  unfold mask_Steps.f
  rw [right_f l hlen k (by omega)]
  obtain ⟨k, rfl⟩ : ∃ m, k = m + 1 := ⟨k - 1, by omega⟩
  simp only [Option.bind_some, mask_Steps.j0, if_true]
  by_cases h0 : rightB l = true
  · rw [if_pos h0]
    by_cases h1 : q < 1
    · rw [if_pos h1]
    · rw [if_neg h1]
      by_cases h2 : q > 10
      · rw [if_pos h2]
      · rw [if_neg h2]
        by_cases h3 : x < 0
        · rw [if_pos h3]
        · rw [if_neg h3]
          have h4 : x > 31 := by rcases h with h | h | h | h | h <;> first | omega | simp_all
          rw [if_pos (by simpa using h4)]
  · rw [if_neg h0]

theorem lives_true : ∀ k, 60 < k → sidebandlaw11_lives.f k = some true := by
  intro k hk
  have hl : ((List.replicate 21 0 : List Int).set (7 : Int).toNat 20).length = 21 := by simp
  have ok : ∀ x ∈ ((List.replicate 21 0 : List Int).set (7 : Int).toNat 20), 0 ≤ x ∧ x ≤ 26 := by decide
  have hs := steps_f _ 8 0 hl ok (by omega) (by omega) k hk
  unfold sidebandlaw11_lives.f
  rw [if_pos (by omega)]
  simp only [Option.bind_some]
  rw [if_pos (by decide), hs]
  simp only [Option.bind_some]
  decide +kernel

/-- How far lines may be: the sum of the bands from place i on. -/
def reachFrom (E s l : List Int) : Nat → Nat → Int → Int
  | 0, _, sum => sum
  | d + 1, i, sum => reachFrom E s l d (i + 1) (wrap64 (sum + wrap64 (wrap64 (rd E ((i + 1 : Nat) : Int) - rd E (i : Int)) * (if rd s (i : Int) < rd l (i : Int) then shl .i64 1 (rd s (i : Int)) else shl .i64 2 (rd l (i : Int))))))

theorem reach_l0 (E s l : List Int) (hE : E.length = 22) (hs : s.length = 21) (hl : l.length = 21) (os : ∀ x ∈ s, 0 ≤ x ∧ x ≤ 26) (ol : ∀ x ∈ l, 0 ≤ x ∧ x ≤ 26) (d : Nat) : ∀ (k i : Nat) (sum : Int), i + d = 21 → d < k →
    mask_Reach.l0 k s E sum l (l.length : Int) (i : Int) = some (reachFrom E s l d i sum, 0) := by
  induction d with
  | zero =>
    intro k i sum hi hk
    obtain ⟨k, rfl⟩ : ∃ m, k = m + 1 := ⟨k - 1, by omega⟩
    simp only [mask_Reach.l0]; rw [if_neg (by omega)]; rfl
  | succ d ih =>
    intro k i sum hi hk
    obtain ⟨k, rfl⟩ : ∃ m, k = m + 1 := ⟨k - 1, by omega⟩
    have h1 := ol _ (rd_mem (l := l) (i := i) (by omega))
    have h2 := os _ (rd_mem (l := s) (i := i) (by omega))
    have hw : wrap64 ((i : Int) + 1) = ((i + 1 : Nat) : Int) := by rw [wrap_in (by omega) (by omega)]; omega
    simp only [mask_Reach.l0, mask_Told.f, hw, Option.bind_some]
    rw [if_pos (by omega), if_pos (by omega), if_pos (by omega), if_pos (by omega), if_pos (by omega)]
    by_cases hc : rd s (i : Int) < rd l (i : Int)
    · rw [if_pos (by simpa using hc), if_pos (by omega), if_pos (by omega), if_pos (by omega), if_pos (by omega), ih k (i + 1) _ (by omega) (by omega)]
      simp only [reachFrom]; rw [if_pos hc]
    · rw [if_neg (by simpa using hc), if_pos (by omega), if_pos (by omega), if_pos (by omega), ih k (i + 1) _ (by omega) (by omega)]
      simp only [reachFrom]; rw [if_neg hc]

def edgesL : List Int := [0, 4, 8, 12, 16, 20, 24, 28, 32, 40, 48, 56, 64, 80, 96, 112, 128, 160, 192, 256, 352, 512]

theorem reach_f (l s : List Int) (hl : rightB l = true) (hs : rightB s = true) (k : Nat) (hk : 60 < k) :
    mask_Reach.f k l s = some (reachFrom edgesL s l 21 0 0, 0) := by
  simp only [rightB, Bool.and_eq_true, beq_iff_eq] at hl hs
  unfold mask_Reach.f
  rw [right_f l (by omega) k (by omega), right_f s (by omega) k (by omega)]
  have e1 : rightB l = true := by simp [rightB, hl]
  have e2 : rightB s = true := by simp [rightB, hs]
  obtain ⟨k, rfl⟩ : ∃ m, k = m + 1 := ⟨k - 1, by omega⟩
  simp only [Option.bind_some, e1, e2, if_true, Bool.not_true, mask_Reach.j0, bands_Edges.f]
  rw [if_neg (by simp)]
  exact reach_l0 edgesL s l rfl hs.2 hl.2 (okB_iff.1 hs.1) (okB_iff.1 hl.1) 21 k 0 0 (by omega) (by omega)

theorem reach_not (l s : List Int) (h1 : l.length ≤ 1000000000000000) (h2 : s.length ≤ 1000000000000000) (h : rightB l = false ∨ rightB s = false) (k : Nat) (hk : l.length + s.length + 2 < k) :
    mask_Reach.f k l s = some (0, 1) := by
  unfold mask_Reach.f
  rw [right_f l h1 k (by omega), right_f s h2 k (by omega)]
  obtain ⟨k, rfl⟩ : ∃ m, k = m + 1 := ⟨k - 1, by omega⟩
  simp only [Option.bind_some, mask_Reach.j0]
  rcases h with h | h
  · rw [h]; simp
  · rw [h]; by_cases e : rightB l = true <;> simp [e]

theorem refRight_l0 (l : List Int) (hlen : l.length ≤ 1000000000000000) (d : Nat) : ∀ (k i : Nat), i + d = l.length → d < k →
    sidebandref10_Right.l0 k l (i : Int) = some (okB (l.drop i) && (l.length == 21)) := by
  induction d with
  | zero =>
    intro k i hi hk
    obtain ⟨k, rfl⟩ : ∃ m, k = m + 1 := ⟨k - 1, by omega⟩
    simp only [sidebandref10_Right.l0]; rw [if_neg (by omega)]
    have : i = l.length := by omega
    subst this
    simp only [okB, List.drop_length, List.all_nil, Bool.true_and, Option.some.injEq]
    rw [Bool.eq_iff_iff]; simp; omega
  | succ d ih =>
    intro k i hi hk
    obtain ⟨k, rfl⟩ : ∃ m, k = m + 1 := ⟨k - 1, by omega⟩
    have hlt : i < l.length := by omega
    simp only [sidebandref10_Right.l0]
    rw [if_pos (by omega), if_pos (by omega)]
    have hd := rd_drop hlt
    by_cases h0 : rd l (i : Int) < 0
    · rw [if_pos h0, hd]; simp [okB]; omega
    · rw [if_neg h0]
      by_cases h1 : rd l (i : Int) > 26
      · rw [if_pos h1, hd]; simp [okB]; omega
      · rw [if_neg h1, wrap_in (by omega) (by omega)]
        have := ih k (i + 1) (by omega) (by omega)
        rw [show ((i : Int) + 1) = ((i + 1 : Nat) : Int) by omega, this, hd]
        have e0 : decide (0 ≤ rd l (i : Int)) = true := by simp; omega
        have e1 : decide (rd l (i : Int) ≤ 26) = true := by simp; omega
        simp only [okB, List.all_cons, e0, e1, Bool.and_true, Bool.true_and]

theorem args_k (l : List Int) (a b : Int) (k : Nat) (hk : 200 < k) : sidebandlaw11_MaskArgs.f k l a b = some true := by
  unfold sidebandlaw11_MaskArgs.f
  obtain ⟨k, rfl⟩ : ∃ m, k = m + 1 := ⟨k - 1, by omega⟩
  rw [lives_true (k + 1) (by omega)]
  simp only [Option.bind_some, if_true, sidebandlaw11_MaskArgs.j0]
  by_cases hc : (l.length : Int) > 60
  · rw [if_pos (by simpa using hc), lives_true k (by omega)]; rfl
  · have hlen : l.length ≤ 60 := by omega
    have hr : sidebandref10_Right.f k l = some (rightB l) := by
      have := refRight_l0 l (by omega) l.length k 0 (by omega) (by omega)
      simpa [sidebandref10_Right.f, rightB] using this
    have h0 : rightB (List.replicate 21 0 : List Int) = true := by decide
    rw [if_neg (by simpa using hc), hr]
    simp only [Option.bind_some]
    rw [if_pos (by omega)]
    by_cases e : rightB l = true
    · have e' := e
      simp only [rightB, Bool.and_eq_true, beq_iff_eq] at e'
      rw [steps_f l 5 5 e'.2 (okB_iff.1 e'.1) (by omega) (by omega) k (by omega), reach_f l _ e h0 k (by omega), reach_f _ l h0 e k (by omega)]
      simp [e, mask_Told.f]
    · have e' : rightB l = false := by simpa using e
      rw [steps_not l 5 5 (by omega) (.inl e') k (by omega), reach_not l _ (by omega) (by simp) (.inl e') k (by simp; omega), reach_not _ l (by simp) (by omega) (.inr e') k (by simp; omega)]
      simp [e', mask_Told.f]

end Go.Proofs.Ytnlhcgofkfcljaa.PMaskArgs
namespace Go.Proofs.Ytnlhcgofkfcljaa.Pure
open Go.RowKit Go.Proofs.Ytnlhcgofkfcljaa.PMaskArgs
theorem MaskArgs : sidebandlaw11_MaskArgs.Pure := fun l a b _ _ _ _ _ => ⟨201, args_k l a b 201 (by omega)⟩
end Go.Proofs.Ytnlhcgofkfcljaa.Pure
