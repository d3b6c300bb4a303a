/-
  The walk of MaskSteps: whatever the input, it returns true, and nothing that was there before the call has changed.
-/
import Derived.Test.YtnlhcgofkfcljaaRefMath
set_option linter.unusedVariables false
set_option linter.unusedSimpArgs false
namespace Go.Proofs.Ytnlhcgofkfcljaa.Own
open Go.RowKit Go.Proofs.YtnlhcgofkfcljaaW.PrintWords Go.Proofs.YtnlhcgofkfcljaaW.PrintLast Go.Proofs.YtnlhcgofkfcljaaW.PrintMore Go.Proofs.Ytnlhcgofkfcljaa.H Go.Proofs.Ytnlhcgofkfcljaa.PMaskArgs

theorem T24 : SlT Try.prog 24 3 (.int .i64 0) 1 8 := SlT.mk' Try.underlying24 (by kernel_rfl) rfl (by decide)

def RowPost (xs : List Int) (w : World) (e : Ending) (w' : World) : Prop := ∃ A c, e = .returned (.slice A 21 c) ∧ 21 ≤ c ∧ Row w' A xs ∧ Below w.heap.size w w'

set_option maxHeartbeats 1000000 in
theorem clone_c (ad : Addr) (c0 : Nat) (l : List Int) (w : World) (hr : Row w (some ad) l) :
    Calls Try.prog 12 #[.slice (some ad) 21 c0] w (RowPost l w) := by
  have HR := Aside0.mk hr
  clear hr
  have hnil := Lib.run_eql_slice_nil (P := Try.prog) (w := w) 24 3 (some ad) 21 c0 0 0 Try.underlying24
  go_enter Try.func12, Try.ntmps12
  go_wp2_with (at_builtin; refine wpList_append_q T24 _ rfl _ _ rfl w.heap.size _ 0 [] rfl (q_empty w 3 1) (some ad) 21 c0 (ints l) rfl ?c1 ?c2 ?c3 ?c4 ?_)
  case c1 => exact news_of_C (Kd.C_alloc HR.out.2 _)
  case c2 => decide
  case c3 => decide
  case c4 => simp
  rintro v' w' ⟨hq, hg, hat, _⟩
  go_wp2_with fail
  go_ret
  simp only [Nat.zero_add, List.nil_append] at hq
  obtain ⟨A, c, rfl, hc⟩ := q_slice hq
  exact ⟨A, c, rfl, hc, ⟨HR.out.1, C_of_q hq⟩, ((Below.refl _ w).alloc (Nat.le_refl _) _).grown hg (by simp) (fun k hk => by simp [Value.ownBlock] at hk; omega)⟩

def EqRel (w : World) (d : Nat) (v13 : Value) (w' : World) : Prop := ∃ i : Nat, v13 = .int .i64 i ∧ i + d = 21 ∧ Drawn0 w w'

set_option maxHeartbeats 1000000 in
theorem equal_c (A B : Option Addr) (c0 c1 : Nat) (l : List Int) (w : World) (hr : Row w A l) (hr2 : Row w B l) :
    Calls Try.prog 13 #[.slice A 21 c0, .slice B 21 c1] w fun e w' => e = .returned (.bool true) ∧ Drawn0 w w' := by
  obtain ⟨ad, rfl, h1⟩ := hr.at
  obtain ⟨bd, rfl, h2⟩ := hr2.at
  have H1 := Aside0.mk h1
  have H2 := Aside0.mk h2
  clear h1 h2 hr hr2
  go_enter Try.func13, Try.ntmps13
  go_wp2_with fail
  go_loopg [13] 21 (fun d v13 w' => EqRel w d v13 w')
  case atStart => exact ⟨0, rfl, rfl, Drawn0.refl _⟩
  case round =>
    obtain ⟨i, rfl, hi, hd⟩ := hrel
    have HD := Aside0.mk hd
    clear hd
    by_cases hlt : i < 21
    · cases gk with
      | zero => omega
      | succ gk =>
      obtain ⟨y, x1, x2⟩ : ∃ y, wr.cell? (ad.add i) = some (.int .i64 y) ∧ wr.cell? (bd.add i) = some (.int .i64 y) := by
        obtain ⟨⟨n, rfl⟩⟩ := HD.out
        exact ⟨_, by simpa using H1.out i hlt, by simpa using H2.out i hlt⟩
      go_wp2_with fail
      go_quiet (fail)
      go_wp2_with fail
      go_roundg gk
      case measure => omega
      case rel => exact ⟨i + 1, by go_num, by omega, Drawn0.step HD.out _⟩
    · go_wp2_with fail
      go_ret
      exact ⟨rfl, HD.out⟩

theorem steps_no (A0 : Option Addr) (c0 : Nat) (l : List Int) (q x : Int) (w : World) (hr0 : Row w A0 l) (hc0 : 21 ≤ c0) (h : q < 1 ∨ q > 10 ∨ x < 0 ∨ x > 31) :
    Calls Try.prog 8 #[.slice A0 21 c0, .int .i64 q, .int .i64 x] w fun e w' => ∃ A c, e = .returned (.tuple #[.slice A 0 c, .int .i64 1]) ∧ Below w.heap.size w w' := by
  have h := mask_Steps.calls 100 A0 c0 l q x [] 1 w (by rw [hr0.1]; exact hr0.2) (by rw [hr0.1]; exact hc0) (steps_not l q x (by rw [hr0.1]; decide) (.inr h) 100 (by rw [hr0.1]; decide))
  rw [hr0.1] at h
  refine h.mono ?_
  rintro e w' ⟨v, rfl, hR, hb⟩
  obtain ⟨A, c, rfl⟩ := Kd.R_slice hR
  exact ⟨A, c, rfl, hb⟩

theorem reach_c (A B : Option Addr) (c0 c1 : Nat) (l s : List Int) (w : World) (hr : Row w A l) (hr2 : Row w B s) (hc0 : 21 ≤ c0) (hc1 : 21 ≤ c1) (hl : Ceils l) (hs : Ceils s) :
    Calls Try.prog 11 #[.slice A 21 c0, .slice B 21 c1] w fun e w' => e = .returned (.tuple #[.int .i64 (reachFrom edgesL s l 21 0 0), .int .i64 0]) ∧ Below w.heap.size w w' := by
  have h := mask_Reach.calls 100 A c0 l B c1 s _ 0 w (by rw [hr.1]; exact hr.2) (by rw [hr.1]; exact hc0) (by rw [hr2.1]; exact hr2.2) (by rw [hr2.1]; exact hc1) (reach_f l s (right_of hl) (right_of hs) 100 (by decide))
  rw [hr.1, hr2.1] at h
  exact h

theorem refsteps_c (A0 : Option Addr) (c0 : Nat) (l : List Int) (q x : Int) (w : World) (hr0 : Row w A0 l) (hc0 : 21 ≤ c0) (ok : Ceils l) (hq : 1 ≤ q ∧ q ≤ 10) (hx : 0 ≤ x ∧ x ≤ 31) :
    Calls Try.prog 14 #[.slice A0 21 c0, .int .i64 q, .int .i64 x] w (RowPost (stepsL l q x) w) := by
  have h := PMaskSteps.sidebandref10_Steps.calls 600 A0 c0 l q x (stepsL l q x) w (by rw [hr0.1]; exact hr0.2) (by rw [hr0.1]; exact hc0) (ref_steps l q x ok hq hx)
  rw [hr0.1] at h
  refine h.mono ?_
  rintro e w' ⟨v, rfl, hR, hb⟩
  obtain ⟨A, c, rfl, hc, hrow⟩ := Row.of_R (stepsL_len l q x) hR
  exact ⟨A, c, rfl, hc, hrow, hb⟩

theorem refreach_k (k : Nat) (hk : k = 106) (A B : Option Addr) (c0 c1 : Nat) (l s : List Int) (w : World) (hr : Row w A l) (hr2 : Row w B s) (hc0 : 21 ≤ c0) (hc1 : 21 ≤ c1) (hl : Ceils l) (hs : Ceils s) :
    Calls Try.prog 15 #[.slice A 21 c0, .slice B 21 c1] w fun e w' => e = .returned (.int .i64 (reachFrom edgesL s l 21 0 0)) ∧ Below w.heap.size w w' := by
  have h := PMaskSteps.sidebandref10_Reach.calls k A c0 l B c1 s _ w (by rw [hr.1]; exact hr.2) (by rw [hr.1]; exact hc0) (by rw [hr2.1]; exact hr2.2) (by rw [hr2.1]; exact hc1) (ref_reach k hk l s hl hs)
  rw [hr.1, hr2.1] at h
  exact h

end Go.Proofs.Ytnlhcgofkfcljaa.Own
