/-
  The reference's functions New and Learn by their contracts.
-/
import Derived.Test.YtlcehlccaepncaaRef
set_option linter.unusedVariables false
set_option linter.unusedSimpArgs false
namespace Go.Proofs.Ytlcehlccaepncaa.Own
open Go.RowKit Go.Proofs.YtlcehlccaepncaaW.PrintWords Go.Proofs.YtlcehlccaepncaaW.PrintMore Go.Proofs.Ytlcehlccaepncaa.H

theorem imix_at {rs : List Nat} {i : Nat} (h : i < rs.length) : (i64s ((rs.map half).take i ++ rs.drop i))[i]? = some (.int .i64 ((rs.getD i 0 : Nat) : Int)) := by
  simp [i64s, List.getElem?_append, h, Nat.min_eq_left (Nat.le_of_lt h)]
theorem imix_set {rs : List Nat} {i : Nat} (h : i < rs.length) : (i64s ((rs.map half).take i ++ rs.drop i)).set i (.int .i64 ((half (rs.getD i 0) : Nat) : Int)) = i64s ((rs.map half).take (i + 1) ++ rs.drop (i + 1)) := by
  rw [← i64s_set]
  congr 1
  rw [List.set_append_right _ _ (by simp; omega)]
  rw [List.take_succ_eq_append_getElem (by simpa using h)]
  simp [Nat.min_eq_left (Nat.le_of_lt h), h]
  rw [List.drop_eq_getElem_cons h]
  rfl

def RNewPost (w : World) (n : Nat) (e : Ending) (w' : World) : Prop := ∃ p g o c, e = .returned (.tuple #[.pointer (some ⟨p, 0, none⟩), .bool true]) ∧ Ref w' w.heap.size p g o c (List.replicate n 1) false ∧ Below w.heap.size w w'

theorem rnew_bad (n : Int) (h : n < 1 ∨ n > 64) (w : World) : Calls Try.prog 8 #[.int .i64 n] w (Quiet (.tuple #[.pointer none, .bool false]) w) := by
  have h' : decide (n < 1) = true ∨ (decide (n < 1) = false ∧ decide (64 < n) = true) := by simp only [decide_eq_true_eq, decide_eq_false_iff_not]; omega
  clear h
  rcases h' with d1 | ⟨d1, d2⟩
  all_goals
    go_enter Try.func8, Try.ntmps8
    go_wp2_with fail
    go_ret2
    exact ⟨rfl, rfl⟩

def RNewRel (w : World) (n : Nat) (d : Nat) (x : Value) (wr : World) : Prop :=
  ∃ (i : Nat) (v : Value), x = .int .i64 i ∧ i + d = n ∧ Has wr w.heap.size 53 [v, .bool false] ∧ QRow wr w.heap.size 3 1 v i (i64s (List.replicate i 1)) ∧ Below w.heap.size w wr

theorem q_nil (w : World) (base e : Nat) : QRow w base e 1 (.slice none 0 0) 0 [] := ⟨by simp, .inl ⟨rfl, none, rfl, fun a ha => by cases ha⟩⟩

theorem one_new (w : World) (E : Nat) (u : Value) (hu : u.oneCell' = true) : News (w.alloc (.cells #[u] E)) 1 (some ⟨w.heap.size, 0, none⟩) 1 [u] := by
  refine ⟨by simp, by simpa using hu, fun _ => ⟨_, rfl, fun j x hx => ?_⟩⟩
  have hj : j = 0 := by have := (List.getElem?_eq_some_iff.1 hx).1; simpa using this
  subst hj
  have := (Has.new w E [u]).cell 0
  simpa [add_at] using this.trans hx

set_option maxHeartbeats 4000000 in
theorem rnew_c (n : Nat) (h : 1 ≤ n ∧ n ≤ 64) (w : World) : Calls Try.prog 8 #[.int .i64 (n : Int)] w (RNewPost w n) := by
  have d1 : decide ((n : Int) < 1) = false := by simp; omega
  have d2 : decide (64 < (n : Int)) = false := by simp; omega
  have d3 : decide (64 < n) = false := by simp; omega
  go_enter Try.func8, Try.ntmps8
  go_wp2_with fail
  go_loopg [5] n (fun d v wr => RNewRel w n d v wr)
  case atStart => exact ⟨0, .slice none 0 0, rfl, by simp, Has.new w 53 [_, _], by simpa [i64s] using q_nil _ _ _, (Below.refl _ w).alloc (Nat.le_refl _) _⟩
  case round =>
    obtain ⟨i, v, rfl, hi, hp, hq, hb⟩ := hrel
    have hpl := hp.lt
    have hvp : ∀ k, v.ownBlock = some k → k ≠ w.heap.size := by
      intro k hk e
      subst e
      obtain ⟨_, cur, hc⟩ := q_typed hq _ hk
      have := hp.out.symm.trans hc
      simp at this
    by_cases hlt : i < n
    · cases gk with
      | zero => omega
      | succ gk =>
      obtain ⟨A, c, rfl, hc⟩ := q_slice hq
      obtain ⟨c0, c1, cf⟩ := Has.two hp
      obtain ⟨b0, b1, bf⟩ := Has.two (hp.alloc (.cells #[.int .i64 1] 3))
      go_wp2_with (at_builtin; refine wpList_append_q T51 _ rfl _ _ rfl w.heap.size (.slice A i c) i (i64s (List.replicate i 1)) rfl ?c0 (some ⟨wr.heap.size, 0, none⟩) 1 1 [.int .i64 1] rfl ?c1 ?c2 ?c3 ?c4 ?_)
      case c0 => exact q_below hq ((Below.refl _ wr).alloc (Nat.le_refl _) _)
      case c1 => exact one_new wr 3 _ rfl
      case c2 => unfold maxLen; omega
      case c3 => omega
      case c4 => simp; omega
      rintro v' w3 ⟨hq3, hg, hat, _⟩
      have hp3 : Has w3 w.heap.size 53 [.slice A i c, .bool false] := (hp.alloc _).grown hg (fun e => (hvp _ e.symm) rfl)
      have hb3 : Below w.heap.size w w3 := (hb.alloc hb.size _).grown hg (by simp; omega) (fun k hk => (q_typed hq k hk).1)
      have hv3 : ∀ k, v'.ownBlock = some k → k ≠ w.heap.size := by
        intro k hk e
        subst e
        obtain ⟨_, cur, hc⟩ := q_typed hq3 _ hk
        have := hp3.out.symm.trans hc
        simp at this
      obtain ⟨A1, k1, hv1, hk1⟩ := q_slice hq3
      subst hv1
      clear c0 c1 cf b0 b1 bf
      obtain ⟨c0, c1, cf⟩ := Has.two hp3
      have HQ := Aside0.mk (And.intro hq3 (And.intro hp3 (And.intro hb3 hv3)))
      clear hq3 hp3 hb3 hv3 hg hat hq hp hb hvp
      go_wp2_with fail
      go_roundg gk
      case measure => omega
      case rel =>
        refine ⟨i + 1, _, by go_num, by omega, HQ.out.2.1.set 0 _, ?_, HQ.out.2.2.1.setCell (Nat.le_refl _) _⟩
        have := q_far HQ.out.1 (p := ⟨w.heap.size, 0, none⟩) HQ.out.2.2.2 (.slice A1 (i + 1) k1)
        rw [show i64s (List.replicate (i + 1) 1) = i64s (List.replicate i 1) ++ [.int .i64 1] by simp [i64s, List.replicate_succ']]
        exact this
    · have hin : i = n := by omega
      subst hin
      obtain ⟨g, o, c, hve, _⟩ : ∃ g o c, v = .slice (some ⟨g, o, none⟩) i c ∧ True := by
        obtain ⟨A, c, rfl, hc⟩ := q_slice hq
        obtain ⟨g, o, rfl, _⟩ := q_open hq h.1
        exact ⟨g, o, c, rfl, trivial⟩
      subst hve
      have hr : Ref wr w.heap.size w.heap.size g o c (List.replicate i 1) false := ⟨by simpa using h, by simp; omega, Nat.le_refl _, by simpa using hp, by simpa using hq⟩
      have HQ := Aside0.mk (And.intro hr hb)
      clear hr hb hq hp
      go_wp2_with fail
      go_ret2
      exact ⟨_, g, o, c, rfl, HQ.out.1, HQ.out.2⟩
end Go.Proofs.Ytlcehlccaepncaa.Own
