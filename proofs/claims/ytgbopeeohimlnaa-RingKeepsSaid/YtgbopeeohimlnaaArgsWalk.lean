/-
  The walks of the ring's example and of RingArgs: whatever the input, the law returns true, and nothing that was there before the call has changed.
-/
import Derived.Test.YtgbopeeohimlnaaPush
set_option linter.unusedVariables false
set_option linter.unusedSimpArgs false
namespace Go.Proofs.Ytgbopeeohimlnaa.Own
open Go.RowKit Go.Proofs.YtgbopeeohimlnaaW.PrintWords Go.Proofs.YtgbopeeohimlnaaW.PrintMore Go.Proofs.Ytgbopeeohimlnaa.H

theorem Bytes.nil (w : World) : Bytes w none 0 [] := ⟨Nat.le_refl _, rfl, by simp, fun h => by simp at h⟩
def P0 : Pk := ⟨0, 0, false, []⟩
def P1 : Pk := ⟨0, 0, true, []⟩

theorem new_2 (w : World) : Calls Try.prog 6 #[.int .i64 2] w (NewPost w 2) := new_c 2 (by omega) w
theorem push_0 {w : World} {B p g n : Nat} {ps : List Pk} {own : Nat → Prop} (h : Ring w B p g n ps own) (hB : B ≤ w.heap.size) (hlen : ps.length + 1 ≤ 1000000) :
    Calls Try.prog 7 #[.pointer (some ⟨p, 0, none⟩), .agg #[.int .u32 0, .int .u32 0, .bool false, .slice none 0 0]] w (PushPost w B p g n ps own P0) := push_c h P0 none 0 (Bytes.nil w) (by decide) hB hlen
theorem push_1 {w : World} {B p g n : Nat} {ps : List Pk} {own : Nat → Prop} (h : Ring w B p g n ps own) (hB : B ≤ w.heap.size) (hlen : ps.length + 1 ≤ 1000000) :
    Calls Try.prog 7 #[.pointer (some ⟨p, 0, none⟩), .agg #[.int .u32 0, .int .u32 0, .bool true, .slice none 0 0]] w (PushPost w B p g n ps own P1) := push_c h P1 none 0 (Bytes.nil w) (by decide) hB hlen

theorem joined_yes (w : World) {e : Ending} {w' : World} (h : JoinPost w [P1, P0] 2 e w') : e = .returned (.tuple #[.int .i64 0, .bool true]) ∧ Drawn0 w w' := h
theorem joined_no (w : World) {e : Ending} {w' : World} (h : JoinPost w [P1, P0, P0] 2 e w') : e = .returned (.tuple #[.int .i64 0, .bool false]) ∧ Drawn0 w w' := h

set_option maxHeartbeats 2000000 in
theorem lives_c (w : World) : Calls Try.prog 5 #[] w fun e w' => e = .returned (.bool true) ∧ Below w.heap.size w w' := by
  go_enter Try.func5, Try.ntmps5
  go_wp2_with fail
  refine (new_2 _).mono ?_
  rintro e w1 ⟨p, g, rfl, hr, hb⟩
  go_wp2_with fail
  refine (push_1 hr (hb.size) (by simp)).mono ?_
  rintro e w2 ⟨rfl, hr2, hb2⟩
  have hbb := hb.trans (hb2.below hb.size (fun k hk => by rcases hk with rfl | rfl; exact hr.hp; exact hr.hg))
  go_wp2_with fail
  refine (push_0 hr2 (hbb.size) (by simp)).mono ?_
  rintro e w3 ⟨rfl, hr3, hb3⟩
  replace hbb := hbb.trans (hb3.below hbb.size (fun k hk => by rcases hk with rfl | rfl; exact hr.hp; exact hr.hg))
  go_wp2_with fail
  refine (join_c hr3).mono ?_
  rintro e w4 hj
  obtain ⟨rfl, hd⟩ := joined_yes _ hj
  have hr4 := hr3.below hd.below
  replace hbb := hbb.trans (hd.below.mono hbb.size)
  go_wp2_with fail
  refine (push_0 hr4 (hbb.size) (by simp)).mono ?_
  rintro e w5 ⟨rfl, hr5, hb5⟩
  replace hbb := hbb.trans (hb5.below hbb.size (fun k hk => by rcases hk with rfl | rfl; exact hr.hp; exact hr.hg))
  go_wp2_with fail
  refine (join_c hr5).mono ?_
  rintro e w6 hj6
  obtain ⟨rfl, hd6⟩ := joined_no _ hj6
  replace hbb := hbb.trans (hd6.below.mono hbb.size)
  go_wp2_with fail
  go_ret
  exact ⟨rfl, hbb⟩

theorem joined_empty (w : World) (n : Nat) {e : Ending} {w' : World} (h : JoinPost w [] n e w') : e = .returned (.tuple #[.int .i64 0, .bool false]) ∧ Drawn0 w w' := by
  obtain ⟨he, hd⟩ := h
  refine ⟨?_, hd⟩
  rw [he]
  simp [lw, lwFrom]
theorem ends_empty {w : World} {B p g n : Nat} {own : Nat → Prop} (h : Ring w B p g n [] own) :
    Calls Try.prog 10 #[.pointer (some ⟨p, 0, none⟩)] w fun e w' => e = .returned (.tuple #[.int .i64 0, .int .i64 0]) ∧ Drawn0 w w' :=
  (ends_c h).mono fun e w' he => ⟨by rw [he.1]; simp, he.2⟩
theorem push_nil0 (w : World) : Calls Try.prog 7 #[.pointer none, .agg #[.int .u32 0, .int .u32 0, .bool false, .slice none 0 0]] w fun e w' => e = .returned (.int .i64 0) ∧ Below w.heap.size w w' := push_nil P0 none 0 w

def zobj : Obj := .cells #[.int .u32 0, .int .u32 0, .bool false, .slice none 0 0] 32
set_option maxHeartbeats 2000000 in
theorem args_c (n i : Int) (w : World) : Calls Try.prog 4 #[.int .i64 n, .int .i64 i] w fun e w' => e = .returned (.bool true) ∧ Below w.heap.size w w' := by
  by_cases hn : 1 ≤ n ∧ n ≤ 1024
  · obtain ⟨m, rfl⟩ : ∃ m : Nat, n = (m : Int) := ⟨n.toNat, by omega⟩
    have d1 : decide ((1 : Int) ≤ (m : Int)) = true := by simp; omega
    have d2 : decide ((m : Int) ≤ 1024) = true := by simp; omega
    have d3 : decide (m ≤ 1024) = true := by simp; omega
    have d4 : decide (1 ≤ m) = true := by simp; omega
    go_enter Try.func4, Try.ntmps4
    go_wp2_with fail
    refine (lives_c _).mono ?_
    rintro e w1 ⟨rfl, hb⟩
    go_wp2_with fail
    refine (new_c m (by omega) _).mono ?_
    rintro e w2 ⟨p, g, rfl, hr, hb2⟩
    replace hb := hb.trans (hb2.mono hb.size)
    go_wp2_with fail
    refine (at_no hr i (by simp; omega)).mono ?_
    rintro e w3 ⟨rfl, hb3⟩
    unfold zeroPk
    replace hb := hb.trans (hb3.mono hb.size)
    replace hr := hr.below hb3
    clear hb2 hb3
    go_wp2_with fail
    replace hr := hr.below ((Below.refl _ w3).alloc (Nat.le_refl _) zobj)
    replace hb := hb.alloc hb.size zobj
    refine (join_c hr).mono ?_
    rintro e w4 hj
    obtain ⟨rfl, hd⟩ := joined_empty _ _ hj
    replace hb := hb.trans (hd.below.mono hb.size)
    replace hr := hr.below hd.below
    clear hj hd
    go_wp2_with fail
    refine (ends_empty hr).mono ?_
    rintro e w5 ⟨rfl, hd5⟩
    replace hb := hb.trans (hd5.below.mono hb.size)
    clear hr hd5
    go_wp2_with fail
    refine (at_nil i _).mono ?_
    rintro e w6 ⟨rfl, hb6⟩
    unfold zeroPk
    replace hb := hb.trans (hb6.mono hb.size)
    clear hb6
    go_wp2_with fail
    replace hb := hb.alloc hb.size zobj
    refine (join_nil _).mono ?_
    rintro e w7 ⟨rfl, rfl⟩
    go_wp2_with fail
    refine (ends_nil _).mono ?_
    rintro e w8 ⟨rfl, rfl⟩
    go_wp2_with fail
    refine (push_nil0 _).mono ?_
    rintro e w9 ⟨rfl, hb9⟩
    replace hb := hb.trans (hb9.mono hb.size)
    go_wp2_with fail
    go_ret
    exact ⟨rfl, hb⟩
  · have hn' : (decide (1 ≤ n) = false) ∨ (decide (1 ≤ n) = true ∧ decide (n ≤ 1024) = false) := by simp only [decide_eq_true_eq, decide_eq_false_iff_not]; omega
    have HN := Aside0.mk hn
    clear hn
    rcases hn' with d1 | ⟨d1, d2⟩
    all_goals
      go_enter Try.func4, Try.ntmps4
      go_wp2_with fail
      refine (lives_c _).mono ?_
      rintro e w1 ⟨rfl, hb⟩
      go_wp2_with fail
      refine (new_bad n (by have := HN.out; omega) _).mono ?_
      rintro e w2 ⟨rfl, rfl⟩
      go_wp2_with fail
      refine (at_nil i _).mono ?_
      rintro e w6 ⟨rfl, hb6⟩
      unfold zeroPk
      replace hb := hb.trans (hb6.mono hb.size)
      clear hb6
      go_wp2_with fail
      replace hb := hb.alloc hb.size zobj
      refine (join_nil _).mono ?_
      rintro e w7 ⟨rfl, rfl⟩
      go_wp2_with fail
      refine (ends_nil _).mono ?_
      rintro e w8 ⟨rfl, rfl⟩
      go_wp2_with fail
      refine (push_nil0 _).mono ?_
      rintro e w9 ⟨rfl, hb9⟩
      replace hb := hb.trans (hb9.mono hb.size)
      go_wp2_with fail
      go_ret
      exact ⟨rfl, hb⟩

theorem args_row (w : World) (n : Int) (_ : -9223372036854775808 ≤ n ∧ n ≤ 9223372036854775807) (i : Int) (_ : -9223372036854775808 ≤ i ∧ i ≤ 9223372036854775807) : Calls Try.prog 4 #[.int .i64 n, .int .i64 i] w fun e w' => e = .returned (.bool true) ∧ Below w.heap.size w w' := args_c n i w
end Go.Proofs.Ytgbopeeohimlnaa.Own
