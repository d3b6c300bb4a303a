/-
  The chapter's example lives; the walk of QueueArgs.
-/
import Derived.Test.YtdfpfchkiogkgaaTake2
import Derived.Lib.SlBytesConst
set_option linter.unusedVariables false
set_option linter.unusedSimpArgs false
namespace Go.Proofs.Ytdfpfchkiogkgaa.Own
open Go.RowKit Go.Proofs.YtdfpfchkiogkgaaW.PrintWords Go.Proofs.YtdfpfchkiogkgaaW.PrintMore Go.Proofs.Ytdfpfchkiogkgaa.H

def LowPost (v : Value) (w : World) (e : Ending) (w' : World) : Prop := e = .returned v ∧ Below w.heap.size w w'
/-- The cells of a literal of bytes, as a conversion leaves them: the mark does not matter to who reads. -/
theorem lit_new (w : World) (bs : List Int) (m : Nat × Nat) : News (w.alloc (.cells (u8s bs).toArray 5 m)) 1 (some ⟨w.heap.size, 0, none⟩) bs.length (u8s bs) := by
  refine ⟨by simp [u8s], fun u hu => ?_, fun _ => ⟨_, rfl, fun j x hx => ?_⟩⟩
  · obtain ⟨x, _, rfl⟩ := List.mem_map.1 hu; rfl
  · rw [add_at, cell_of_row _ w.heap.size _ (u8s bs).toArray 5 m (heap_alloc_new w _)]
    simpa using hx
theorem lit_conv (w : World) (bs : List Int) : (convert 32 32 (.slice (some ⟨w.heap.size, 0, none⟩) bs.length bs.length)).run Try.prog (w.alloc (.cells (u8s bs).toArray 5)) = .ok (.slice (some ⟨w.heap.size, 0, none⟩) bs.length bs.length) (w.alloc (.cells (u8s bs).toArray 5 ((u8s bs).toArray.size, (u8s bs).toArray.size + 1))) :=
  Go.Lib.run_convert_bytes_const w 32 5 _ _ _ Try.underlying32 Try.underlying5
theorem str_of_q {w : World} {base n c : Nat} {A : Option Addr} {bs : List Int} (h : QRow w base 5 1 (.slice A n c) n (u8s bs)) : (convert 32 9 (.slice A n c)).run Try.prog w = .ok (.string (strOfNums bs)) w :=
  Kd.C_string Try.underlying32 Try.underlying5 Try.underlying9 (C_of_q h)

set_option maxHeartbeats 4000000 in
theorem lives_c (w : World) : Calls Try.prog 6 #[] w (LowPost (.bool true) w) := by
  go_enter Try.func6, Try.ntmps6
  go_wp2_with fail
  refine (new_c 2 (by omega) w).mono ?_
  rintro e w1 ⟨rfl, hq1, hb1⟩
  have hal := (Below.refl w1.heap.size w1).alloc (Nat.le_refl _) (.cells (u8s [120]).toArray 5 (1, 2))
  have hq1' : QS (w1.alloc (.cells (u8s [120]).toArray 5 (1, 2))) w.heap.size w.heap.size ⟨[], [], 2, true, 0⟩ (fun b => b = w.heap.size) := hq1.below hal
  have hlt := hq1.lt w.heap.size rfl
  have hcv := lit_conv w1 [120]
  simp only [u8s, List.map_cons, List.map_nil, List.length_cons, List.length_nil] at hcv
  have hb2 := hb1.trans (hal.mono hb1.size)
  go_wp2_with fail
  refine (offer_c hq1' (some ⟨w1.heap.size, 0, none⟩) 1 [120] false (lit_new w1 [120] _) (fun ad ha => by injection ha with ha; subst ha; simp; omega) (by simp; omega) (by simp)).mono ?_
  rintro e w2 ⟨rfl, hq2, hbt2⟩
  rw [show (St.mk [] [] 2 true 0).offer [120] false = ⟨[], [], 2, true, 1⟩ from rfl] at hq2
  rw [show (St.mk [] [] 2 true 0).room.takes false = false from rfl]
  have hb3 := hb2.trans (hbt2.below hb2.size (fun k hk => by omega))
  clear hq1 hq1' hcv hal hb1 hb2 hbt2
  obtain ⟨own, hown, hq2⟩ : ∃ own, (∀ b, own b → b < w2.heap.size) ∧ QS w2 w.heap.size w.heap.size ⟨[], [], 2, true, 1⟩ own := ⟨_, fun b hb => (hq2.lt b hb).2, hq2⟩
  have hal := (Below.refl w2.heap.size w2).alloc (Nat.le_refl _) (.cells (u8s [97, 98, 99]).toArray 5 (3, 4))
  have hq2' : QS (w2.alloc (.cells (u8s [97, 98, 99]).toArray 5 (3, 4))) w.heap.size w.heap.size ⟨[], [], 2, true, 1⟩ own := hq2.below hal
  have hcv := lit_conv w2 [97, 98, 99]
  simp only [u8s, List.map_cons, List.map_nil, List.length_cons, List.length_nil] at hcv
  have hb4 := hb3.trans (hal.mono hb3.size)
  go_wp2_with fail
  refine (offer_c hq2' (some ⟨w2.heap.size, 0, none⟩) 3 [97, 98, 99] true (lit_new w2 [97, 98, 99] _) (fun ad ha => by injection ha with ha; subst ha; intro ho; have := hown _ ho; simp at this) (by have := hb3.size; simp; omega) (by simp)).mono ?_
  rintro e w3 ⟨rfl, hq3, hbt3⟩
  rw [show (St.mk [] [] 2 true 1).offer [97, 98, 99] true = ⟨[], [[97, 98, 99]], 2, false, 1⟩ from rfl] at hq3
  rw [show (St.mk [] [] 2 true 1).room.takes true = true from rfl]
  have hb5 := hb4.trans (hbt3.below (hb4.size) (fun k hk => (hq2.lt k hk).1))
  clear hq2 hq2' hcv hal hb3 hb4 hbt3
  go_wp2_with fail
  refine (take_c hq3 2 (by omega) hb5.size).mono ?_
  rintro e w4 ⟨v, rfl, hv, hq4, hbt4⟩
  have hb6 := hb5.trans (hbt4.below (hb5.size) (fun k hk => (hq3.lt k hk).1))
  rw [show (St.mk [] [[97, 98, 99]] 2 false 1).goes 2 = [97, 98] from by decide] at hv
  rw [show (St.mk [] [[97, 98, 99]] 2 false 1).take 2 = ⟨[99], [], 2, false, 1⟩ from rfl] at hq4
  obtain ⟨A, c, rfl, _⟩ := q_slice hv
  have hcv := str_of_q hv
  rw [show strOfNums [97, 98] = { data := #[97, 98] } from rfl] at hcv
  clear hbt4 hb5 hq3 hv
  simp only [List.length_cons, List.length_nil] at hcv ⊢
  go_wp2_with fail
  refine (lost_c hq4).mono ?_
  rintro e w5 ⟨rfl, rfl⟩
  clear hq4 hcv
  go_wp2_with fail
  exact bodyPost_ret (v := .bool true) (by simp [results, Try.results6, go_sem, *]) rfl ⟨rfl, hb6⟩

set_option maxHeartbeats 8000000 in
theorem args_c (w : World) (n : Int) (hn : -9223372036854775808 ≤ n ∧ n ≤ 9223372036854775807) (A : Option Addr) (cap : Nat) (l : List Int) (hC : Kd.C (Kd.int .u8) w A l.length l) (hc0 : l.length ≤ cap) (hlm : l.length ≤ maxLen) (hw : ∀ x ∈ l, 0 ≤ x ∧ x ≤ 255) :
    Calls Try.prog 5 #[.int .i64 n, .slice A l.length cap] w fun e w' => e = .returned (.bool true) ∧ Below w.heap.size w w' := by
  clear hC hw
  unfold maxLen at hlm
  by_cases hl : l.length ≤ 100
  · have d1 : decide (100 < (l.length : Int)) = false := by simp; omega
    have d2 : decide (100 < l.length) = false := decide_eq_false (by omega)
    by_cases hnn : 1 ≤ n ∧ n ≤ 256
    · have e1 : decide (1 ≤ n) = true := decide_eq_true hnn.1
      have e2 : decide (n ≤ 256) = true := decide_eq_true hnn.2
      obtain ⟨N, rfl⟩ : ∃ N : Nat, n = (N : Int) := ⟨n.toNat, by omega⟩
      go_enter Try.func5, Try.ntmps5
      go_wp2_with fail
      refine (lives_c w).mono ?_
      rintro e w1 ⟨rfl, hb1⟩
      go_wp2_with fail
      refine (new_c N (by omega) w1).mono ?_
      rintro e w2 ⟨rfl, _, hb2⟩
      have hb := hb1.trans (hb2.mono hb1.size)
      clear hb1 hb2
      go_wp2_with fail
      refine (say_nil _ _).mono ?_
      rintro e w3 ⟨rfl, rfl⟩
      go_wp2_with fail
      refine (flush_nil _).mono ?_
      rintro e w3 ⟨rfl, rfl⟩
      go_wp2_with fail
      refine (waits_nil _).mono ?_
      rintro e w3 ⟨rfl, rfl⟩
      go_wp2_with fail
      refine (offer_nil _ _ _).mono ?_
      rintro e w3 ⟨rfl, rfl⟩
      go_wp2_with fail
      refine (take_nil _ _).mono ?_
      rintro e w3 ⟨rfl, rfl⟩
      go_wp2_with fail
      refine (lost_nil _).mono ?_
      rintro e w3 ⟨rfl, rfl⟩
      go_wp2_with fail
      exact bodyPost_ret (v := .bool true) (by simp [results, Try.results5, go_sem, *]) rfl ⟨rfl, hb⟩
    · have e0 : (decide (1 ≤ n) = false) ∨ (decide (1 ≤ n) = true ∧ decide (n ≤ 256) = false) := by simp only [decide_eq_true_eq, decide_eq_false_iff_not]; omega
      have hbad := new_bad n (by omega)
      clear hnn
      rcases e0 with e1 | ⟨e1, e2⟩
      all_goals
        go_enter Try.func5, Try.ntmps5
        go_wp2_with fail
        refine (lives_c w).mono ?_
        rintro e w1 ⟨rfl, hb⟩
        go_wp2_with fail
        refine (hbad w1).mono ?_
        rintro e w2 ⟨rfl, rfl⟩
        clear hbad
        go_wp2_with fail
        refine (say_nil _ _).mono ?_
        rintro e w3 ⟨rfl, rfl⟩
        go_wp2_with fail
        refine (flush_nil _).mono ?_
        rintro e w3 ⟨rfl, rfl⟩
        go_wp2_with fail
        refine (waits_nil _).mono ?_
        rintro e w3 ⟨rfl, rfl⟩
        go_wp2_with fail
        refine (offer_nil _ _ _).mono ?_
        rintro e w3 ⟨rfl, rfl⟩
        go_wp2_with fail
        refine (take_nil _ _).mono ?_
        rintro e w3 ⟨rfl, rfl⟩
        go_wp2_with fail
        refine (lost_nil _).mono ?_
        rintro e w3 ⟨rfl, rfl⟩
        go_wp2_with fail
        exact bodyPost_ret (v := .bool true) (by simp [results, Try.results5, go_sem, *]) rfl ⟨rfl, hb⟩
  · have d1 : decide (100 < (l.length : Int)) = true := by simp; omega
    have d2 : decide (100 < l.length) = true := decide_eq_true (by omega)
    go_enter Try.func5, Try.ntmps5
    go_wp2_with fail
    refine (lives_c w).mono ?_
    rintro e w1 ⟨rfl, hb1⟩
    go_wp2_with fail
    refine (lives_c w1).mono ?_
    rintro e w2 ⟨rfl, hb2⟩
    have hb := hb1.trans (hb2.mono hb1.size)
    clear hb1 hb2
    go_wp2_with fail
    exact bodyPost_ret (v := .bool true) (by simp [results, Try.results5, go_sem, *]) rfl ⟨rfl, hb⟩
end Go.Proofs.Ytdfpfchkiogkgaa.Own
