/-
  QueueRuns' plain law: which packets have gone, and which wait.
-/
import Derived.Test.YtdfpfchkiogkgaaSound
set_option linter.unusedVariables false
set_option linter.unusedSimpArgs false
namespace Go.Proofs.Ytdfpfchkiogkgaa.Own
open Go.RowKit Go.Proofs.YtdfpfchkiogkgaaW.PrintWords Go.Proofs.YtdfpfchkiogkgaaW.PrintMore Go.Proofs.Ytdfpfchkiogkgaa.H

/-- Packet j, as it is offered. -/
def pkt (j : Nat) : List Int := [91, (j : Int), 93]
def pkts (js : List Nat) : List Int := (js.map pkt).flatten
theorem pkts_nil : pkts [] = [] := rfl
theorem pkts_append (a b : List Nat) : pkts (a ++ b) = pkts a ++ pkts b := by simp [pkts]
theorem pkts_len (js : List Nat) : (pkts js).length = 3 * js.length := by
  induction js with
  | nil => rfl
  | cons a r ih => rw [show pkts (a :: r) = pkt a ++ pkts r from rfl, List.length_append, ih]; simp [pkt]; omega
theorem pkts_at (js : List Nat) (t n : Nat) (h : js[t]? = some n) : (pkts js)[3 * t]? = some 91 ∧ (pkts js)[3 * t + 1]? = some (n : Int) ∧ (pkts js)[3 * t + 2]? = some 93 := by
  induction js generalizing t with
  | nil => simp at h
  | cons a r ih =>
    rw [show pkts (a :: r) = 91 :: (a : Int) :: 93 :: pkts r from rfl]
    cases t with
    | zero => simp at h; subst h; simp
    | succ t =>
      have := ih t (by simpa using h)
      rw [show 3 * (t + 1) = 3 * t + 3 by omega]
      simpa [Nat.add_assoc] using this

/-- Numbers that rise; behind each gap a whole one. -/
def Chain (ws : List Bool) : Int → List Nat → Prop
  | _, [] => True
  | last, n :: r => last < (n : Int) ∧ n < ws.length ∧ ((n : Int) = last + 1 ∨ ws[n]? = some true) ∧ Chain ws n r
def lst : Int → List Nat → Int
  | last, [] => last
  | _, n :: r => lst n r
theorem Chain.mono {ws ws' : List Bool} (hw : ∀ (i : Nat) (b : Bool), ws[i]? = some b → ws'[i]? = some b) (hl : ws.length ≤ ws'.length) {L : List Nat} {last : Int} (h : Chain ws last L) : Chain ws' last L := by
  induction L generalizing last with
  | nil => trivial
  | cons n r ih =>
    obtain ⟨h1, h2, h3, h4⟩ := h
    exact ⟨h1, by omega, h3.imp id (hw _ _), ih h4⟩
theorem Chain.left {ws : List Bool} {L M : List Nat} {last : Int} (h : Chain ws last (L ++ M)) : Chain ws last L := by
  induction L generalizing last with
  | nil => trivial
  | cons n r ih =>
    obtain ⟨h1, h2, h3, h4⟩ := h
    exact ⟨h1, h2, h3, ih h4⟩
theorem Chain.lt {ws : List Bool} {L : List Nat} {last : Int} (h : Chain ws last L) (hl : last < (ws.length : Int)) : lst last L < (ws.length : Int) := by
  induction L generalizing last with
  | nil => exact hl
  | cons n r ih =>
    obtain ⟨h1, h2, h3, h4⟩ := h
    exact ih h4 (by omega)
theorem Chain.snoc {ws : List Bool} {L : List Nat} {last : Int} {k : Nat} (h : Chain ws last L) (h1 : lst last L < (k : Int)) (h2 : k < ws.length) (h3 : (k : Int) = lst last L + 1 ∨ ws[k]? = some true) : Chain ws last (L ++ [k]) := by
  induction L generalizing last with
  | nil => exact ⟨h1, h2, h3, trivial⟩
  | cons n r ih =>
    obtain ⟨a1, a2, a3, a4⟩ := h
    exact ⟨a1, a2, a3, ih a4 h1 h3⟩
theorem lst_snoc (last : Int) (L : List Nat) (k : Nat) : lst last (L ++ [k]) = k := by
  induction L generalizing last with
  | nil => rfl
  | cons n r ih => exact ih n
theorem Chain.at {ws : List Bool} {L : List Nat} {last : Int} (h : Chain ws last L) (t n : Nat) (hn : L[t]? = some n) :
    lst last (L.take t) < (n : Int) ∧ n < ws.length ∧ ((n : Int) = lst last (L.take t) + 1 ∨ ws[n]? = some true) := by
  induction L generalizing last t with
  | nil => simp at hn
  | cons a r ih =>
    obtain ⟨a1, a2, a3, a4⟩ := h
    cases t with
    | zero => simp at hn; subst hn; exact ⟨a1, a2, a3⟩
    | succ t => exact ih a4 t (by simpa using hn)

theorem tk_split (l : List (List Int)) (hd : List Int) (n : Nat) : ∃ c, (tk l hd n).2.2 = l.drop c ∧ (tk l hd n).1 ++ (tk l hd n).2.1 = hd ++ (l.take c).flatten := by
  induction l generalizing hd n with
  | nil => exact ⟨0, by simp [tk], by simp [tk]⟩
  | cons b r ih =>
    simp only [tk]
    split
    · exact ⟨0, by simp, by simp⟩
    · obtain ⟨c, h1, h2⟩ := ih b (n - hd.length)
      exact ⟨c + 1, by simpa using h1, by simp [h2]⟩
theorem tk_all (l : List (List Int)) (hd : List Int) (n : Nat) (h : hd.length + l.flatten.length ≤ n) : (tk l hd n).1 = hd ++ l.flatten := by
  induction l generalizing hd n with
  | nil => simp [tk] at h ⊢; exact List.take_of_length_le h
  | cons b r ih =>
    simp only [tk]
    simp at h
    split
    · have hb : b = [] := List.eq_nil_of_length_eq_zero (by omega)
      have hr : r.flatten = [] := List.eq_nil_of_length_eq_zero (by simp; omega)
      rw [List.flatten_cons, hb, hr, List.take_of_length_le (by omega)]; simp
    · rw [List.flatten_cons, ih b (n - hd.length) (by simp; omega)]

/-- What holds behind i acts: what went and what is begun are whole packets of rising numbers; so are those that wait. -/
structure Run (n i : Nat) (s : St) (A : List Int) (ws : List Bool) (js ms : List Nat) : Prop where
  sound : Sound n i s
  went : A ++ s.hd = 62 :: pkts js
  wait : s.l = ms.map pkt
  chain : Chain ws (-2) (js ++ ms)
  next : s.drops = false → lst (-2) (js ++ ms) = (ws.length : Int) - 1
  few : js.length + ms.length ≤ ws.length
  num : ws.length ≤ i

section
variable {n i : Nat} {s : St} {A : List Int} {ws : List Bool} {js ms : List Nat}
theorem Run.start (hn : 1 ≤ n ∧ n ≤ 6) : Run n 0 ⟨[62], [], n, true, 0⟩ [] [] [] [] :=
  ⟨⟨rfl, hn, by simp, by simp, by simp, by simp⟩, rfl, rfl, trivial, (fun h => by cases h), by simp, by simp⟩
theorem Run.flush (h : Run n i s A ws js ms) : Run n (i + 1) s.flush A ws js [] :=
  ⟨h.sound.flush, h.went, rfl, by simpa using h.chain.left, (fun h => by simp [St.flush] at h), by have := h.few; simp; omega, by have := h.num; omega⟩
theorem Run.same (h : Run n i s A ws js ms) : Run n (i + 1) s A ws js ms :=
  ⟨h.sound.next, h.went, h.wait, h.chain, h.next, h.few, by have := h.num; omega⟩
theorem Run.take (h : Run n i s A ws js ms) (k : Nat) : ∃ js' ms', Run n (i + 1) (s.take k) (A ++ s.goes k) ws js' ms' := by
  obtain ⟨c, h1, h2⟩ := tk_split s.l s.hd k
  refine ⟨js ++ ms.take c, ms.drop c, h.sound.take k, ?_, ?_, ?_, ?_, ?_, by have := h.num; omega⟩
  · show (A ++ (tk s.l s.hd k).1) ++ (tk s.l s.hd k).2.1 = _
    rw [List.append_assoc, h2, ← List.append_assoc, h.went, h.wait, pkts_append, List.cons_append, pkts, pkts, List.map_take]
  · show (tk s.l s.hd k).2.2 = _
    rw [h1, h.wait, List.map_drop]
  · rw [List.append_assoc, List.take_append_drop]; exact h.chain
  · rw [List.append_assoc, List.take_append_drop]; exact h.next
  · have := h.few; simp; omega
theorem Run.room (h : Run n i s A ws js ms) : ∃ ms', (s.room.hd = s.hd ∧ s.room.l = ms'.map pkt) ∧ Chain ws (-2) (js ++ ms') ∧ (s.room.drops = false → lst (-2) (js ++ ms') = (ws.length : Int) - 1) ∧ js.length + ms'.length ≤ ws.length := by
  unfold St.room
  split
  · exact ⟨[], ⟨rfl, rfl⟩, by simpa using h.chain.left, fun h => by simp [St.flush] at h, by have := h.few; simp; omega⟩
  · exact ⟨ms, ⟨rfl, h.wait⟩, h.chain, h.next, h.few⟩
theorem Run.offer (h : Run n i s A ws js ms) (w : Bool) : ∃ ms', Run n (i + 1) (s.offer (pkt ws.length) w) A (ws ++ [w]) js ms' := by
  have hs := h.sound.offer (pkt ws.length) w (by simp [pkt])
  obtain ⟨ms', ⟨r1, r2⟩, r3, r4, r5⟩ := h.room
  have hmono : Chain (ws ++ [w]) (-2) (js ++ ms') := r3.mono (fun i b hb => by rw [List.getElem?_append_left (List.getElem?_eq_some_iff.1 hb).1]; exact hb) (by simp)
  have hnum := h.num
  unfold St.offer St.put at hs ⊢
  split at hs
  · next hd =>
    rw [if_pos hd]
    refine ⟨ms', hs, by rw [← h.went]; show A ++ s.room.hd = _; rw [r1], r2, hmono, fun hf => ?_, by simp; omega, by simp; omega⟩
    have hf : s.room.drops = false := hf
    rw [hf] at hd
    simp at hd
  · next hd =>
    rw [if_neg hd]
    have hlt := r3.lt (by omega)
    refine ⟨ms' ++ [ws.length], hs, by rw [← h.went]; show A ++ s.room.hd = _; rw [r1], ?_, ?_, ?_, by simp; omega, by simp; omega⟩
    · show s.room.l ++ [pkt ws.length] = _
      rw [r2, List.map_append]; rfl
    · rw [← List.append_assoc]
      refine hmono.snoc hlt (by simp) ?_
      by_cases hw : w = true
      · right; simp [hw]
      · left
        have hw : w = false := by simpa using hw
        have : s.room.drops = false := by
          cases hdr : s.room.drops with
          | false => rfl
          | true => rw [hdr, hw] at hd; simp at hd
        have := r4 this
        omega
    · intro _
      rw [← List.append_assoc, lst_snoc]; simp
/-- At the end all is taken. -/
theorem Run.last (h : Run n i s A ws js ms) (hi : i ≤ 80) : A ++ s.goes 1048576 = 62 :: pkts (js ++ ms) := by
  have h1 : (tk s.l s.hd 1048576).1 = s.hd ++ s.l.flatten := by
    refine tk_all _ _ _ ?_
    have h2 := congrArg List.length h.went
    have h3 : s.l.flatten = pkts ms := by rw [h.wait]; rfl
    rw [h3, pkts_len]
    simp only [List.length_append, List.length_cons, pkts_len] at h2
    have := h.few; have := h.num; omega
  show A ++ (tk s.l s.hd 1048576).1 = _
  rw [h1, ← List.append_assoc, h.went, h.wait, pkts_append]; rfl
end
end Go.Proofs.Ytdfpfchkiogkgaa.Own
