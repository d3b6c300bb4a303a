/-
  The chapter's example lives; the walk of ModelNil.
-/
import Derived.Test.YtlcehlccaepncaaAsk
set_option linter.unusedVariables false
set_option linter.unusedSimpArgs false
namespace Go.Proofs.Ytlcehlccaepncaa.Own
open Go.RowKit Go.Proofs.YtlcehlccaepncaaW.PrintWords Go.Proofs.YtlcehlccaepncaaW.PrintMore Go.Proofs.Ytlcehlccaepncaa.H

set_option maxHeartbeats 4000000 in
theorem lives_c (w : World) : Calls Try.prog 6 #[] w (LowPost (.bool true) w) := by
  go_enter Try.func6, Try.ntmps6
  go_wp2_with fail
  refine (new_c 3 (by omega) w).mono ?_
  rintro e w1 ⟨p, g, o, c, rfl, hm1, hb1⟩
  go_wp2_with fail
  refine (learn_c hm1 1 (by simp)).mono ?_
  rintro e w2 ⟨rfl, hm2, hb2⟩
  rw [show learn (List.replicate 3 1) 1 = [1, 33, 1] from by decide] at hm2
  have hb12 : Below w.heap.size w w2 := hb1.trans (hb2.below hb1.size (fun k hk => by have := hm1.hp; have := hm1.row.1; omega))
  clear hm1 hb1 hb2
  go_wp2_with fail
  refine (part_c hm2 2 (by simp)).mono ?_
  rintro e w3 ⟨rfl, hb3⟩
  rw [show part [1, 33, 1] 2 = .agg #[.int .u32 34, .int .u32 1, .int .u32 35] from rfl]
  have hb13 := hb12.trans (hb3.mono hb12.size)
  have HB := Aside0.mk hb13
  clear hm2 hb12 hb3 hb13
  go_wp2_with fail
  refine bodyPost_ret (v := .bool true) (by simp [results, Try.results6, go_sem, *]) rfl ⟨rfl, ?_⟩
  exact HB.out.alloc (HB.out.size) _

set_option maxHeartbeats 4000000 in
theorem nil_c (w : World) (s : Int) (hs : -9223372036854775808 ≤ s ∧ s ≤ 9223372036854775807) (a : Int) (ha : 0 ≤ a ∧ a ≤ 4294967295) : Calls Try.prog 4 #[.int .i64 s, .int .u32 a] w fun e w' => e = .returned (.bool true) ∧ Below w.heap.size w w' := by
  go_enter Try.func4, Try.ntmps4
  go_wp2_with fail
  refine (lives_c w).mono ?_
  rintro e w1 ⟨rfl, hb1⟩
  go_wp2_with fail
  refine (part_nil _ w1).mono ?_
  rintro e w2 ⟨rfl, hb2⟩
  have hb := hb1.trans (hb2.mono hb1.size)
  clear hb1 hb2
  unfold noPart
  go_wp2_with fail
  have hb := hb.alloc hb.size (.cells #[.int .u32 0, .int .u32 0, .int .u32 0] 36)
  refine (learn_nil _ _).mono ?_
  rintro e w3 ⟨rfl, rfl⟩
  go_wp2_with fail
  refine (find_nil _ _).mono ?_
  rintro e w3 ⟨rfl, rfl⟩
  go_wp2_with fail
  refine (len_nil _).mono ?_
  rintro e w3 ⟨rfl, rfl⟩
  go_wp2_with fail
  refine bodyPost_ret (v := .bool true) (by simp [results, Try.results4, go_sem, *]) rfl ⟨rfl, ?_⟩
  exact hb
end Go.Proofs.Ytlcehlccaepncaa.Own
