/-
  The reference's function Fixed by its contract.
-/
import Derived.Test.YtlcehlccaepncaaLearns
import Derived.Deep.RegionLaw
set_option linter.unusedVariables false
set_option linter.unusedSimpArgs false
namespace Go.Proofs.Ytlcehlccaepncaa.Own
open Go.RowKit Go.Proofs.YtlcehlccaepncaaW.PrintWords Go.Proofs.YtlcehlccaepncaaW.PrintMore Go.Proofs.Ytlcehlccaepncaa.H

theorem step_append_q {P : Program} {t e : TypeId} {z : Value} {size bytes : Nat} (T : SlT P t e z size bytes) {ops : Array Oper} {o : Oper} {a : Act} {w : World} {K : Act → World → Prop} {Q : Exit → Act → World → Prop} {E : Prop}
    (hg : o.guard = none) (s x : Operand) (hop : o.op = Op.call { callee := Callee.builtin Builtin.append, args := #[s, x], argTypes := #[t, t] })
    (base : Nat) (v : Value) (n : Nat) (xs : List Value) (hs : a.eval s = v) (hown : QRow w base e size v n xs)
    (ao : Option Addr) (m c : Nat) (news : List Value) (hx : a.eval x = .slice ao m c) (hn : News w size ao m news) (h63 : n + m ≤ maxLen) (hbytes : (n + m) * bytes ≤ 140737488355328) (hbase : base ≤ w.heap.size)
    (hK : ∀ v' w', Appended w base e size v n m xs news v' w' → K (a.put o.dst v') w') :
    if Region.wanted o (yielded ops a.tmps) = true then Oper.wp P o a w K Q else E := by
  have hw : Region.wanted o (yielded ops a.tmps) = true := by simp [Region.wanted, hg]
  rw [if_pos hw]
  exact wp_append_q T w s x hop base v n xs hs hown ao m c news hx hn h63 hbytes hbase hK

theorem cell_below {w w' : World} (hb : Below w.heap.size w w') {a : Addr} {v : Value} (h : w.cell? a = some v) : w'.cell? a = some v := (hb.cell (World.block_lt_of_cell? w _ h)).trans h

/-- n numbers are read at ad. -/
structure Nums (w : World) (ad : Addr) (os : List Nat) : Prop where
  at_ : ∀ j, j < os.length → w.cell? (ad.add j) = some (.int .u32 ((os.getD j 0 : Nat) : Int))
  lt : ad.block < w.heap.size
theorem Nums.below {w w1 : World} {ad : Addr} {os : List Nat} (h : Nums w ad os) (hb : Below w.heap.size w w1) : Nums w1 ad os :=
  ⟨fun j hj => cell_below hb (h.at_ j hj), Nat.lt_of_lt_of_le h.lt hb.size⟩

/-- The numbers that a fixed model bears. -/
def Valid (os : List Nat) : Prop := (∀ x ∈ os, 1 ≤ x) ∧ os.sum ≤ 8192

def RFixPost (w : World) (os : List Nat) (e : Ending) (w' : World) : Prop :=
  Below w.heap.size w w' ∧ ((Valid os ∧ ∃ p g o c, e = .returned (.tuple #[.pointer (some ⟨p, 0, none⟩), .bool true]) ∧ Ref w' w.heap.size p g o c os true) ∨ (¬ Valid os ∧ ∃ v, e = .returned (.tuple #[.pointer v, .bool false])))

theorem rfixed_bad (A : Option Addr) (n c : Nat) (h : n < 1 ∨ 64 < n) (w : World) : Calls Try.prog 16 #[.slice A n c] w (Quiet (.tuple #[.pointer none, .bool false]) w) := by
  have h' : decide ((n : Int) < 1) = true ∨ (decide ((n : Int) < 1) = false ∧ decide (64 < (n : Int)) = true ∧ decide (64 < n) = true) := by simp only [decide_eq_true_eq, decide_eq_false_iff_not]; omega
  have hn : n = 0 ∨ 64 < n := by omega
  rcases hn with rfl | hn
  · clear h h'
    go_enter Try.func16, Try.ntmps16
    go_wp2_with fail
    go_ret2
    exact ⟨rfl, rfl⟩
  · obtain ⟨d1, d2, d3⟩ : decide ((n : Int) < 1) = false ∧ decide (64 < (n : Int)) = true ∧ decide (64 < n) = true := by simp only [decide_eq_true_eq, decide_eq_false_iff_not]; omega
    clear h h'
    go_enter Try.func16, Try.ntmps16
    go_wp2_with fail
    go_ret2
    exact ⟨rfl, rfl⟩

def RFixRel (w : World) (os : List Nat) (d : Nat) (x : Value) (wr : World) : Prop :=
  ∃ (i : Nat) (v : Value), x = .int .i64 i ∧ i + d = os.length ∧ Has wr w.heap.size 53 [v, .bool true] ∧ QRow wr w.heap.size 3 1 v i (i64s (os.take i)) ∧ Below w.heap.size w wr ∧ ∀ x ∈ os.take i, 1 ≤ x

set_option maxHeartbeats 8000000 in
set_option maxRecDepth 100000 in
theorem rfixed_c {w : World} {ad : Addr} {os : List Nat} (hn : Nums w ad os) (hl : 1 ≤ os.length ∧ os.length ≤ 64) (h32 : ∀ x ∈ os, x ≤ 4294967295) (cap : Nat) : Calls Try.prog 16 #[.slice (some ad) os.length cap] w (RFixPost w os) := by
  have d1 : decide ((os.length : Int) < 1) = false := by simp; omega
  have d2 : decide (64 < (os.length : Int)) = false := by simp; omega
  have d3 : decide (64 < os.length) = false := by simp; omega
  have d4 : decide (os.length < 1) = false := decide_eq_false (by omega)
  have HN := Aside0.mk hn
  have H32 := Aside0.mk h32
  clear hn h32
  go_enter Try.func16, Try.ntmps16
  go_wp2_with fail
  go_loopg [5] os.length (fun d v wr => RFixRel w os d v wr)
  case atStart => exact ⟨0, .slice none 0 0, rfl, by simp, Has.new w 53 [_, _], by simpa [i64s] using q_nil _ _ _, (Below.refl _ w).alloc (Nat.le_refl _) _, by simp⟩
  case round =>
    obtain ⟨i, v, rfl, hi, hp, hq, hb, hpos⟩ := hrel
    have hpl := hp.lt
    have hvp : ∀ k, v.ownBlock = some k → k ≠ w.heap.size := by
      intro k hk e
      subst e
      obtain ⟨_, cur, hc⟩ := q_typed hq _ hk
      have := hp.out.symm.trans hc
      simp at this
    by_cases hlt : i < os.length
    · cases gk with
      | zero => omega
      | succ gk =>
      obtain ⟨A, c, rfl, hc⟩ := q_slice hq
      obtain ⟨c0, c1, cf⟩ := Has.two hp
      have hz0 := (HN.out.below hb).at_ i hlt
      have hz32 := H32.out (os.getD i 0) (by simp [hlt])
      have htk : os.take (i + 1) = os.take i ++ [os.getD i 0] := by rw [List.take_succ_eq_append_getElem hlt]; simp [hlt]
      obtain ⟨z, hze⟩ : ∃ z, os.getD i 0 = z := ⟨_, rfl⟩
      rw [hze] at hz0 hz32 htk
      have hza := (Below.refl wr.heap.size wr).alloc (Nat.le_refl _) (.cells #[.int .i64 (z : Int)] 3)
      obtain ⟨b0, b1, bf⟩ := Has.two (hp.below hza hpl)
      have hz1 := cell_below hza hz0
      have hwz : IntKind.i64.wrap (z : Int) = (z : Int) := IntWalk.i64_in _ (by omega)
      have hil : (i : Int) < (os.length : Int) := by omega
      have HQ := Aside0.mk (And.intro hq (And.intro hp (And.intro hb hvp)))
      have HZ := Aside0.mk hza
      clear hq hp hb hvp hza
      go_wp2_with fail
      go_region_law (first | (refine step_append_q T51 rfl (.tmp 26) (.tmp 32) rfl w.heap.size (.slice A i c) i (i64s (os.take i)) rfl (q_move (q_below HQ.out.1 HZ.out) (fun _ _ => rfl)) (some ⟨wr.heap.size, 0, none⟩) 1 1 [.int .i64 (z : Int)] rfl (one_new wr 3 _ rfl) (by unfold maxLen; omega) (by omega) (by simp; omega) ?_
                              rintro v' w3 ⟨hq3, hg3, hat3, _⟩
                              have hp3 : Has w3 w.heap.size 53 [.slice A i c, .bool true] := ((Has.alloc HQ.out.2.1 (.cells #[.int .i64 (z : Int)] 3)).drew).grown hg3 (fun e => (HQ.out.2.2.2 _ e.symm) rfl)
                              obtain ⟨e0, e1, ef⟩ := Has.two hp3
                              obtain ⟨A1, k1, hv1, hk1⟩ := q_slice hq3
                              subst hv1))
      all_goals
        obtain ⟨w4, hw4⟩ : ∃ w4, w3.setCell ⟨w.heap.size, 0, none⟩ (.slice A1 (i + 1) k1) = w4 := ⟨_, rfl⟩
        rw [hw4]
        have hp4 : Has w4 w.heap.size 53 [.slice A1 (i + 1) k1, .bool true] := by rw [← hw4]; exact hp3.set 0 _
        have hne3 : ∀ k, (Value.slice A1 (i + 1) k1).ownBlock = some k → k ≠ w.heap.size := by
          intro k hk e
          subst e
          obtain ⟨_, cur, hc⟩ := q_typed hq3 _ hk
          have := hp3.out.symm.trans hc
          simp at this
        have hq4 : QRow w4 w.heap.size 3 1 (.slice A1 (i + 1) k1) (i + 1) (i64s (os.take (i + 1))) := by
          rw [← hw4, htk]
          have := q_far hq3 (p := ⟨w.heap.size, 0, none⟩) hne3 (.slice A1 (i + 1) k1)
          simpa [i64s] using this
        have hb4 : Below w.heap.size w w4 := by
          rw [← hw4]
          exact (((HQ.out.2.2.1.trans (HZ.out.mono HQ.out.2.2.1.size)).drew).grown hg3 (by simp; omega) (fun k hk => (q_typed HQ.out.1 k hk).1)).setCell (Nat.le_refl _) _
        have hz4 := (HN.out.below hb4).at_ i hlt
        rw [hze] at hz4
        have H4 := Aside0.mk (And.intro hp4 (And.intro hq4 hb4))
        clear hp4 hq4 hb4 hw4 hne3 hq3 hp3 hg3 hat3 e0 e1 ef c0 c1 cf b0 b1 bf hz0 hz1
        by_cases hz : z = 0
        · subst hz
          have hbad : ¬ Valid os := by
            intro hv
            have := hv.1 (os.getD i 0) (by simp [hlt])
            omega
          go_wp2_with fail
          go_ret2
          exact ⟨H4.out.2.2, .inr ⟨hbad, none, rfl⟩⟩
        · go_wp2_with fail
          go_roundg gk
          case measure => omega
          case rel =>
            refine ⟨i + 1, _, by go_num, by omega, H4.out.1, H4.out.2.1, H4.out.2.2, ?_⟩
            rw [htk]
            intro x hx
            rcases List.mem_append.1 hx with hx | hx
            · exact hpos x hx
            · simp at hx; omega
    · have hin : i = os.length := by omega
      rw [hin, List.take_length] at hq
      rw [hin, List.take_length] at hpos
      obtain ⟨g, o, c, hve, _⟩ : ∃ g o c, v = .slice (some ⟨g, o, none⟩) os.length c ∧ True := by
        obtain ⟨A, c, rfl, hc⟩ := q_slice hq
        obtain ⟨g, o, rfl, _⟩ := q_open hq hl.1
        exact ⟨g, o, c, rfl, trivial⟩
      subst hve
      have hsm : os.sum ≤ 274877906944 := by
        have : ∀ (l : List Nat), (∀ x ∈ l, x ≤ 4294967295) → l.sum ≤ l.length * 4294967295 := by
          intro l hl
          induction l with
          | nil => simp
          | cons x xs ih =>
            have h1 := hl x (by simp)
            have h2 := ih (fun y hy => hl y (by simp [hy]))
            simp [Nat.succ_mul]; omega
        have := this os H32.out
        omega
      have hr : Ref wr w.heap.size w.heap.size g o c os true := ⟨hl, hsm, Nat.le_refl _, hp, hq⟩
      have HQ := Aside0.mk (And.intro hr hb)
      clear hr hb hq hp hvp
      subst hin
      go_wp2_with fail
      refine (sum_c HQ.out.1 os.length (Nat.le_refl _)).mono ?_
      rintro e w5 ⟨rfl, rfl⟩
      rw [List.take_length]
      by_cases hs : os.sum ≤ 8192
      · have e1 : decide ((os.sum : Int) ≤ 8192) = true := by simp; omega
        have e2 : decide (os.sum ≤ 8192) = true := decide_eq_true hs
        go_wp2_with fail
        go_ret2
        exact ⟨HQ.out.2, .inl ⟨⟨hpos, hs⟩, _, g, o, c, rfl, HQ.out.1⟩⟩
      · have e1 : decide ((os.sum : Int) ≤ 8192) = false := by simp; omega
        have e2 : decide (os.sum ≤ 8192) = false := decide_eq_false hs
        go_wp2_with fail
        go_ret2
        exact ⟨HQ.out.2, .inr ⟨fun hv => hs hv.2, _, rfl⟩⟩
end Go.Proofs.Ytlcehlccaepncaa.Own
