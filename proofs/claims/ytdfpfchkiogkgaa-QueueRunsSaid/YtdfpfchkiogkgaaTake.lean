/-
  The queue's function Take by its contract.
-/
import Derived.Test.YtdfpfchkiogkgaaOffer
set_option linter.unusedVariables false
set_option linter.unusedSimpArgs false
namespace Go.Proofs.Ytdfpfchkiogkgaa.Own
open Go.RowKit Go.Proofs.YtdfpfchkiogkgaaW.PrintWords Go.Proofs.YtdfpfchkiogkgaaW.PrintMore Go.Proofs.Ytdfpfchkiogkgaa.H

/-- What n bytes that are taken leave: what goes, the bytes ahead, the packets. -/
def tk : List (List Int) → List Int → Nat → List Int × List Int × List (List Int)
  | [], hd, n => (hd.take n, hd.drop n, [])
  | b :: r, hd, n => if n ≤ hd.length then (hd.take n, hd.drop n, b :: r) else (hd ++ (tk r b (n - hd.length)).1, (tk r b (n - hd.length)).2)
theorem tk_zero (l : List (List Int)) (hd : List Int) : tk l hd 0 = ([], hd, l) := by cases l <;> simp [tk]
theorem tk_none (n : Nat) : tk [] [] n = ([], [], []) := by simp [tk]
theorem tk_next (b : List Int) (r : List (List Int)) (n : Nat) (h : 0 < n) : tk (b :: r) [] n = tk r b n := by
  have h' : ¬ n ≤ 0 := by omega
  simp [tk, h']
theorem tk_chunk (l : List (List Int)) (hd : List Int) (n k : Nat) (h1 : k ≤ hd.length) (h2 : k ≤ n) : tk l hd n = (hd.take k ++ (tk l (hd.drop k) (n - k)).1, (tk l (hd.drop k) (n - k)).2) := by
  cases l with
  | nil =>
    simp only [tk, List.drop_drop]
    rw [show k + (n - k) = n by omega]
    congr 1
    conv => lhs; rw [show n = k + (n - k) by omega, List.take_add]
  | cons b r =>
    simp only [tk, List.length_drop]
    by_cases h : n ≤ hd.length
    · rw [if_pos h, if_pos (by omega), List.drop_drop, show k + (n - k) = n by omega]
      congr 1
      conv => lhs; rw [show n = k + (n - k) by omega, List.take_add]
    · rw [if_neg h, if_neg (by omega), show n - k - (hd.length - k) = n - hd.length by omega, ← List.append_assoc, List.take_append_drop]
theorem tk_len (l : List (List Int)) (hd : List Int) (n : Nat) : (tk l hd n).1.length ≤ n := by
  induction l generalizing hd n with
  | nil => simp [tk]; omega
  | cons b r ih =>
    simp only [tk]
    split
    · simp; omega
    · have := ih b (n - hd.length); simp; omega

def St.take (s : St) (n : Nat) : St := { s with hd := (tk s.l s.hd n).2.1, l := (tk s.l s.hd n).2.2 }
def St.goes (s : St) (n : Nat) : List Int := (tk s.l s.hd n).1

section
variable {own : Nat → Prop} {w : World} {B p most lost : Nat} {hd : List Int} {l : List (List Int)} {drops : Bool} {hv lv : Value} {vs : List Value}
/-- The bytes ahead have become fewer. -/
theorem QAt.headed (h : QAt w B p hd l most drops lost own hv lv vs) {hv' : Value} {hd' : List Int} (hq : QRow w B 5 1 hv' hd'.length (u8s hd')) (ho : ∀ k, hv'.ownBlock = some k → hv.ownBlock = some k) :
    QAt (w.setCell ⟨p, 0, none⟩ hv') B p hd' l most drops lost own hv' lv vs := by
  refine ⟨h.hp.set 0 _, q_far hq (fun k hk => h.hne k (ho k hk)) _, q_far h.lq h.lne _, fun i v bs hi hbs => q_far (h.pk i v bs hi hbs) (h.vne v (List.mem_of_getElem? hi)) _, ?_, h.op, ?_, fun b hb => by have := h.lt b hb; simpa using this⟩
  · exact List.pairwise_cons.2 ⟨fun v hv k hk => (List.pairwise_cons.1 h.ap).1 v hv k (ho k hk), (List.pairwise_cons.1 h.ap).2⟩
  · intro v hv1 k hk
    simp only [List.mem_cons] at hv1
    rcases hv1 with rfl | rfl | hv1
    · exact h.ov hv (by simp) k (ho k hk)
    · exact h.ov _ (by simp) k hk
    · exact h.ov _ (by simp [hv1]) k hk
/-- The next packet is begun. -/
theorem QAt.nexted {b : List Int} {v lv' : Value} (h : QAt w B p hd (b :: l) most drops lost own hv lv (v :: vs)) (hq : QRow w B 32 1 lv' l.length vs) (ho : ∀ k, lv'.ownBlock = some k → lv.ownBlock = some k) :
    QAt ((w.setCell ⟨p, 0, none⟩ v).setCell ⟨p, 1, none⟩ lv') B p b l most drops lost own v lv' vs := by
  have hv := h.pk 0 v b rfl rfl
  have hvn := h.vne v (by simp)
  refine ⟨(h.hp.set 0 _).set 1 _, q_far (q_far hv hvn _) hvn _, q_far (q_far hq (fun k hk => h.lne k (ho k hk)) _) (fun k hk => h.lne k (ho k hk)) _, fun i u bs hi hbs => ?_, (List.pairwise_cons.1 h.ap).2, h.op, ?_, fun b hb => by have := h.lt b hb; simpa using this⟩
  · have hu := h.vne u (by simp [List.mem_of_getElem? hi])
    exact q_far (q_far (h.pk (i + 1) u bs (by simpa using hi) (by simpa using hbs)) hu _) hu _
  · intro u hu k hk
    simp only [List.mem_cons] at hu
    rcases hu with rfl | rfl | hu
    · exact h.ov _ (by simp) k hk
    · exact h.ov lv (by simp) k (ho k hk)
    · exact h.ov _ (by simp [hu]) k hk
end
end Go.Proofs.Ytdfpfchkiogkgaa.Own
