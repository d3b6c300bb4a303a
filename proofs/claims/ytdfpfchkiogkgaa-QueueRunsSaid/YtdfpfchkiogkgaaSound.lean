/-
  What holds of the queue's state through QueueActs: plain lemmas; and the number of places.
-/
import Derived.Test.YtdfpfchkiogkgaaOpen
set_option linter.unusedVariables false
set_option linter.unusedSimpArgs false
namespace Go.Proofs.Ytdfpfchkiogkgaa.Own
open Go.RowKit Go.Proofs.YtdfpfchkiogkgaaW.PrintWords Go.Proofs.YtdfpfchkiogkgaaW.PrintMore Go.Proofs.Ytdfpfchkiogkgaa.H

/-- What the state keeps to, after i acts. -/
structure Sound (n i : Nat) (s : St) : Prop where
  most : s.most = n
  pos : 1 ≤ n ∧ n ≤ 6
  len : s.l.length ≤ n
  each : ∀ b ∈ s.l, b.length ≤ 100
  head : s.hd.length ≤ 100 * (i + 1)
  lost : s.lost ≤ 10 * i
theorem Sound.room {n i : Nat} {s : St} (h : Sound n i s) : s.room.most = n ∧ s.room.l.length < n ∧ (∀ b ∈ s.room.l, b.length ≤ 100) ∧ s.room.hd = s.hd ∧ s.room.lost ≤ 10 * i + 6 := by
  obtain ⟨h1, h2, h3, h4, h5, h6⟩ := h
  unfold St.room
  split
  · refine ⟨h1, by simp [St.flush]; omega, by simp [St.flush], rfl, ?_⟩
    simp only [St.flush]; omega
  · exact ⟨h1, by omega, h4, rfl, by omega⟩
theorem Sound.offer {n i : Nat} {s : St} (h : Sound n i s) (bs : List Int) (w : Bool) (hb : bs.length ≤ 100) : Sound n (i + 1) (s.offer bs w) := by
  obtain ⟨r1, r2, r3, r4, r5⟩ := h.room
  have h5 := h.head
  unfold St.offer St.put
  split
  · exact ⟨r1, h.pos, by show s.room.l.length ≤ n; omega, r3, by show s.room.hd.length ≤ _; rw [r4]; omega, by show s.room.lost + 1 ≤ _; omega⟩
  · refine ⟨r1, h.pos, by simp; omega, fun b hb' => ?_, by show s.room.hd.length ≤ _; rw [r4]; omega, by show s.room.lost ≤ _; omega⟩
    rcases List.mem_append.1 hb' with h1 | h1
    · exact r3 b h1
    · simp at h1; subst h1; exact hb
theorem Sound.flush {n i : Nat} {s : St} (h : Sound n i s) : Sound n (i + 1) s.flush := by
  obtain ⟨h1, h2, h3, h4, h5, h6⟩ := h
  exact ⟨h1, h2, by simp [St.flush], by simp [St.flush], by simp only [St.flush]; omega, by simp only [St.flush]; omega⟩
def St.say (s : St) (bs : List Int) : St := { s with hd := s.hd ++ bs }
theorem Sound.say {n i : Nat} {s : St} (h : Sound n i s) (bs : List Int) (hb : bs.length ≤ 100) : Sound n (i + 1) (s.say bs) := by
  obtain ⟨h1, h2, h3, h4, h5, h6⟩ := h
  exact ⟨h1, h2, h3, h4, by simp [St.say]; omega, by simp only [St.say]; omega⟩
theorem tk_sound (l : List (List Int)) (hd : List Int) (n M : Nat) (h1 : ∀ b ∈ l, b.length ≤ 100) (h2 : hd.length ≤ M) (h3 : 100 ≤ M) :
    (tk l hd n).2.1.length ≤ M ∧ (tk l hd n).2.2.length ≤ l.length ∧ ∀ b ∈ (tk l hd n).2.2, b ∈ l := by
  induction l generalizing hd n with
  | nil => simp [tk]; omega
  | cons b r ih =>
    simp only [tk]
    split
    · refine ⟨by simp; omega, by simp, fun x hx => hx⟩
    · obtain ⟨i1, i2, i3⟩ := ih b (n - hd.length) (fun x hx => h1 x (by simp [hx])) (by have := h1 b (by simp); omega)
      exact ⟨i1, by simp; omega, fun x hx => by have := i3 x hx; simp [this]⟩
theorem Sound.next {n i : Nat} {s : St} (h : Sound n i s) : Sound n (i + 1) s :=
  ⟨h.most, h.pos, h.len, h.each, by have := h.head; omega, by have := h.lost; omega⟩
theorem Sound.take {n i : Nat} {s : St} (h : Sound n i s) (k : Nat) : Sound n (i + 1) (s.take k) := by
  obtain ⟨h1, h2, h3, h4, h5, h6⟩ := h
  obtain ⟨t1, t2, t3⟩ := tk_sound s.l s.hd k (100 * (i + 1)) h4 h5 (by omega)
  exact ⟨h1, h2, by simp only [St.take]; omega, fun b hb => h4 b (t3 b hb), by simp only [St.take]; omega, by simp only [St.take]; omega⟩

theorem size_is (a : Int) (h : -9223372036854775808 ≤ a ∧ a ≤ 9223372036854775807) : ∃ m : Nat, wrap64 (1 + wrap64 ((IntKind.u64.wrap a).tmod 6)) = (m : Int) ∧ 1 ≤ m ∧ m ≤ 6 := by
  have : 1 ≤ wrap64 (1 + wrap64 ((IntKind.u64.wrap a).tmod 6)) ∧ wrap64 (1 + wrap64 ((IntKind.u64.wrap a).tmod 6)) ≤ 6 := by
    rw [IntKind.wrap_u64, Int.tmod_eq_emod_of_nonneg (by omega)]
    unfold wrap64; omega
  exact ⟨(wrap64 (1 + wrap64 ((IntKind.u64.wrap a).tmod 6))).toNat, by omega, by omega, by omega⟩
end Go.Proofs.Ytdfpfchkiogkgaa.Own
