/-
  The model's function Fixed by its contract.
-/
import Derived.Test.YtlcehlccaepncaaRFixed
import Derived.Deep.RegionLaw
set_option linter.unusedVariables false
set_option linter.unusedSimpArgs false
namespace Go.Proofs.Ytlcehlccaepncaa.Own
open Go.RowKit Go.Proofs.YtlcehlccaepncaaW.PrintWords Go.Proofs.YtlcehlccaepncaaW.PrintMore Go.Proofs.Ytlcehlccaepncaa.H

def FixPost (w : World) (os : List Nat) (e : Ending) (w' : World) : Prop :=
  Below w.heap.size w w' ∧ ((Valid os ∧ ∃ p g o c, e = .returned (.tuple #[.pointer (some ⟨p, 0, none⟩), .int .i64 0]) ∧ Mod w' w.heap.size p g o c os true) ∨ (¬ Valid os ∧ e = .returned (.tuple #[.pointer none, .int .i64 1])))

theorem fixed_bad (A : Option Addr) (n c : Nat) (h : n < 1 ∨ 64 < n) (w : World) : Calls Try.prog 15 #[.slice A n c] w (Quiet (.tuple #[.pointer none, .int .i64 1]) w) := by
  have hn : n = 0 ∨ 64 < n := by omega
  rcases hn with rfl | hn
  · clear h
    go_enter Try.func15, Try.ntmps15
    go_wp2_with fail
    go_ret2
    exact ⟨rfl, rfl⟩
  · obtain ⟨d1, d2, d3⟩ : decide ((n : Int) < 1) = false ∧ decide (64 < (n : Int)) = true ∧ decide (64 < n) = true := by simp only [decide_eq_true_eq, decide_eq_false_iff_not]; omega
    clear h
    go_enter Try.func15, Try.ntmps15
    go_wp2_with fail
    go_ret2
    exact ⟨rfl, rfl⟩

def FixRel (w : World) (os : List Nat) (d : Nat) (x : Value) (wr : World) : Prop :=
  ∃ (i : Nat) (v : Value), x = .int .i64 i ∧ i + d = os.length ∧ Has wr w.heap.size 50 [v, .int .u32 ((os.take i).sum : Nat), .bool true] ∧ QRow wr w.heap.size 23 1 v i (u32s (os.take i)) ∧ Below w.heap.size w wr ∧ (∀ x ∈ os.take i, 1 ≤ x) ∧ (os.take i).sum ≤ 8192

theorem fixed_step {w wr w3 w4 : World} {A A1 : Option Addr} {i c k1 S z : Nat} {xs : List Nat} {o : Obj}
    (hq3 : QRow w3 w.heap.size 23 1 (.slice A1 (i + 1) k1) (i + 1) (u32s xs ++ [.int .u32 (z : Int)])) (hp3 : Has w3 w.heap.size 50 [.slice A i c, .int .u32 (S : Int), .bool true])
    (hg3 : (wr.alloc o).drew.grownBy w3 (Value.slice A i c).ownBlock) (hq : QRow wr w.heap.size 23 1 (.slice A i c) i (u32s xs)) (hb : Below w.heap.size w (wr.alloc o))
    (hw4 : (w3.setCell ⟨w.heap.size, 0, none⟩ (.slice A1 (i + 1) k1)).setCell ⟨w.heap.size, 1, none⟩ (.int .u32 ((S : Int) + (z : Int))) = w4) :
    Has w4 w.heap.size 50 [.slice A1 (i + 1) k1, .int .u32 ((S : Int) + (z : Int)), .bool true] ∧ QRow w4 w.heap.size 23 1 (.slice A1 (i + 1) k1) (i + 1) (u32s (xs ++ [z])) ∧ Below w.heap.size w w4 := by
  have hne3 : ∀ k, (Value.slice A1 (i + 1) k1).ownBlock = some k → k ≠ w.heap.size := by
    intro k hk e
    subst e
    obtain ⟨_, cur, hc⟩ := q_typed hq3 _ hk
    have := hp3.out.symm.trans hc
    simp at this
  rw [← hw4]
  refine ⟨(hp3.set 0 _).set 1 _, ?_, ?_⟩
  · have := q_far (q_far hq3 (p := ⟨w.heap.size, 0, none⟩) hne3 (.slice A1 (i + 1) k1)) (p := ⟨w.heap.size, 1, none⟩) hne3 (.int .u32 ((S : Int) + (z : Int)))
    simpa [u32s] using this
  · exact (((hb.drew).grown hg3 (by have := hb.size; simpa using this) (fun k hk => (q_typed hq k hk).1)).setCell (Nat.le_refl _) _).setCell (Nat.le_refl _) _

set_option maxHeartbeats 8000000 in
set_option maxRecDepth 100000 in
theorem fixed_c {w : World} {ad : Addr} {os : List Nat} (hn : Nums w ad os) (hl : 1 ≤ os.length ∧ os.length ≤ 64) (h32 : ∀ x ∈ os, x ≤ 4294967295) (cap : Nat) : Calls Try.prog 15 #[.slice (some ad) os.length cap] w (FixPost w os) := by
  have d1 : decide ((os.length : Int) < 1) = false := by simp; omega
  have d2 : decide (64 < (os.length : Int)) = false := by simp; omega
  have d3 : decide (64 < os.length) = false := by simp; omega
  have d4 : decide (os.length < 1) = false := decide_eq_false (by omega)
  have HN := Aside0.mk hn
  have H32 := Aside0.mk h32
  clear hn h32
  go_enter Try.func15, Try.ntmps15
  go_wp2_with fail
  go_loopg [19] os.length (fun d v wr => FixRel w os d v wr)
  case atStart => exact ⟨0, .slice none 0 0, rfl, by simp, Has.new w 50 [_, _, _], by simpa [u32s] using q_nil _ _ _, (Below.refl _ w).alloc (Nat.le_refl _) _, by simp, by simp⟩
  case round =>
    obtain ⟨i, v, rfl, hi, hp, hq, hb, hpos, hsum⟩ := hrel
    have hpl := hp.lt
    have hvp : ∀ k, v.ownBlock = some k → k ≠ w.heap.size := by
      intro k hk e
      subst e
      obtain ⟨_, cur, hc⟩ := q_typed hq _ hk
      have := hp.out.symm.trans hc
      simp at this
    by_cases hlt : i < os.length
    · cases gk with
      | zero => omega
      | succ gk =>
      obtain ⟨A, c, rfl, hc⟩ := q_slice hq
      obtain ⟨c0, c1, c2, cf⟩ := hp.three
      have hz0 := (HN.out.below hb).at_ i hlt
      have hz32 := H32.out (os.getD i 0) (by simp [hlt])
      have htk : os.take (i + 1) = os.take i ++ [os.getD i 0] := by rw [List.take_succ_eq_append_getElem hlt]; simp [hlt]
      have hts := take_sum_succ hlt
      have hle := take_sum_le os (i + 1)
      have hin : os.getD i 0 ∈ os := by simp [hlt]
      obtain ⟨z, hze⟩ : ∃ z, os.getD i 0 = z := ⟨_, rfl⟩
      rw [hze] at hz0 hz32 htk hts hin
      obtain ⟨S, hS⟩ : ∃ S, (os.take i).sum = S := ⟨_, rfl⟩
      rw [hS] at hsum hts c1 hp
      have hza := (Below.refl wr.heap.size wr).alloc (Nat.le_refl _) (.cells #[.int .u32 (z : Int)] 23)
      obtain ⟨b0, b1, b2, bf⟩ := (hp.below hza hpl).three
      have hil : (i : Int) < (os.length : Int) := by omega
      have hws : IntKind.u32.wrap (8192 - (S : Int)) = 8192 - (S : Int) := IntWalk.u32_in _ (by omega)
      have HQ := Aside0.mk (And.intro hq (And.intro hp (And.intro hb hvp)))
      have HZ := Aside0.mk hza
      clear hq hp hb hvp hza
      by_cases hz1 : z < 1
      · have e1 : decide ((z : Int) < 1) = true := by simp; omega
        have e2 : decide (z < 1) = true := decide_eq_true hz1
        have hbad : ¬ Valid os := fun hv => by have := hv.1 z hin; omega
        go_wp2_with fail
        go_ret2
        exact ⟨HQ.out.2.2.1, .inr ⟨hbad, rfl⟩⟩
      · have e1 : decide ((z : Int) < 1) = false := by simp; omega
        have e2 : decide (z < 1) = false := decide_eq_false hz1
        by_cases hbig : 8192 < S + z
        · have e3 : decide (8192 - (S : Int) < (z : Int)) = true := by simp; omega
          have hbad : ¬ Valid os := fun hv => by have := hv.2; omega
          go_wp2_with fail
          go_ret2
          exact ⟨HQ.out.2.2.1, .inr ⟨hbad, rfl⟩⟩
        · have e3 : decide (8192 - (S : Int) < (z : Int)) = false := by simp; omega
          have hwz : IntKind.u32.wrap ((S : Int) + (z : Int)) = (S : Int) + (z : Int) := IntWalk.u32_in _ (by omega)
          go_wp2_with fail
          go_region_law (first | (refine step_append_q T44 rfl (.tmp 39) (.tmp 41) rfl w.heap.size (.slice A i c) i (u32s (os.take i)) rfl (q_move (q_below HQ.out.1 HZ.out) (fun _ _ => rfl)) (some ⟨wr.heap.size, 0, none⟩) 1 1 [.int .u32 (z : Int)] rfl (one_new wr 23 _ rfl) (by unfold maxLen; omega) (by omega) (by simp; omega) ?_
                                  rintro v' w3 ⟨hq3, hg3, hat3, _⟩
                                  have hp3 : Has w3 w.heap.size 50 [.slice A i c, .int .u32 (S : Int), .bool true] := ((Has.alloc HQ.out.2.1 (.cells #[.int .u32 (z : Int)] 23)).drew).grown hg3 (fun e => (HQ.out.2.2.2 _ e.symm) rfl)
                                  obtain ⟨e0, e1, e2, ef⟩ := hp3.three
                                  obtain ⟨A1, k1, hv1, hk1⟩ := q_slice hq3
                                  subst hv1))
          all_goals
            obtain ⟨w4, hw4⟩ : ∃ w4, (w3.setCell ⟨w.heap.size, 0, none⟩ (.slice A1 (i + 1) k1)).setCell ⟨w.heap.size, 1, none⟩ (.int .u32 ((S : Int) + (z : Int))) = w4 := ⟨_, rfl⟩
            rw [hw4]
            have H4 := fixed_step hq3 hp3 hg3 HQ.out.1 (HQ.out.2.2.1.trans (HZ.out.mono HQ.out.2.2.1.size)) hw4
            clear hw4 hq3 hp3 hg3 hat3 e0 e1 e2 ef c0 c1 c2 cf b0 b1 b2 bf hz0
            have H5 := Aside0.mk H4
            clear H4
            go_wp2_with fail
            go_roundg gk
            case measure => omega
            case rel =>
              refine ⟨i + 1, _, by go_num, by omega, by rw [hts]; push_cast; exact H5.out.1, by rw [htk]; exact H5.out.2.1, H5.out.2.2, ?_, by omega⟩
              rw [htk]
              intro x hx
              rcases List.mem_append.1 hx with hx | hx
              · exact hpos x hx
              · simp at hx; omega
    · have hin : i = os.length := by omega
      rw [hin, List.take_length] at hq hpos hsum hp
      obtain ⟨g, o, c, hve, _⟩ : ∃ g o c, v = .slice (some ⟨g, o, none⟩) os.length c ∧ True := by
        obtain ⟨A, c, rfl, hc⟩ := q_slice hq
        obtain ⟨g, o, rfl, _⟩ := q_open hq hl.1
        exact ⟨g, o, c, rfl, trivial⟩
      subst hve
      have hr : Mod wr w.heap.size w.heap.size g o c os true := ⟨⟨hl, hsum, hpos⟩, Nat.le_refl _, hp, hq⟩
      have HQ := Aside0.mk (And.intro hr hb)
      clear hr hb hq hp hvp
      subst hin
      go_wp2_with fail
      go_ret2
      exact ⟨HQ.out.2, .inl ⟨⟨hpos, hsum⟩, _, g, o, c, rfl, HQ.out.1⟩⟩
end Go.Proofs.Ytlcehlccaepncaa.Own
