/-
  The law's function same: a model and the reference that hold the same numbers are the same.
-/
import Derived.Test.YtlcehlccaepncaaRef3
set_option linter.unusedVariables false
set_option linter.unusedSimpArgs false
namespace Go.Proofs.Ytlcehlccaepncaa.Own
open Go.RowKit Go.Proofs.YtlcehlccaepncaaW.PrintWords Go.Proofs.YtlcehlccaepncaaW.PrintMore Go.Proofs.Ytlcehlccaepncaa.H

section
variable {w : World} {B p g o c q h r d : Nat} {fs : List Nat} {fx fy : Bool}
theorem below_drewN (w : World) (n : Nat) : Below w.heap.size w (w.drewN n) := ⟨rfl, rfl, rfl, Nat.le_refl _, fun _ _ => rfl⟩
theorem Quiet.turn {v : Value} {w : World} {e : Ending} {w' : World} (h : Quiet v w e w') : e = .returned v ∧ w' = w := ⟨h.1, h.2.symm⟩
theorem find_q (hm : Mod w B p g o c fs fx) (a : Nat) (ha : a ≤ 4294967295) (n : Nat) : Calls Try.prog 13 #[.pointer (some ⟨p, 0, none⟩), .int .u32 (a : Int)] (w.drewN n) fun e w' => e = .returned (.int .i64 (find fs a : Nat)) ∧ w' = w.drewN n :=
  (find_c (hm.below (below_drewN w n)) a ha).mono fun _ _ h => h.turn
theorem len_q (hm : Mod w B p g o c fs fx) (n : Nat) : Calls Try.prog 14 #[.pointer (some ⟨p, 0, none⟩)] (w.drewN n) fun e w' => e = .returned (.int .i64 (fs.length : Int)) ∧ w' = w.drewN n :=
  (len_c (hm.below (below_drewN w n))).mono fun _ _ h => h.turn
theorem sum_q (hr : Ref w B q h r d fs fx) (k : Nat) (hk : k ≤ fs.length) (n : Nat) : Calls Try.prog 17 #[.pointer (some ⟨q, 0, none⟩), .int .i64 (k : Int)] (w.drewN n) fun e w' => e = .returned (.int .i64 ((fs.take k).sum : Nat)) ∧ w' = w.drewN n :=
  (sum_c (hr.below (below_drewN w n)) k hk).mono fun _ _ h => h.turn
theorem rfind_q (hr : Ref w B q h r d fs fx) (a : Nat) (ha : a ≤ 4294967295) (n : Nat) : Calls Try.prog 18 #[.pointer (some ⟨q, 0, none⟩), .int .i64 (a : Int)] (w.drewN n) fun e w' => e = .returned (.int .i64 (find fs a : Nat)) ∧ w' = w.drewN n :=
  (rfind_c (hr.below (below_drewN w n)) a ha).mono fun _ _ h => h.turn
end

/-- A model and the reference that hold the same numbers. -/
def SameRel (w : World) (B p g o c q h r d : Nat) (fs : List Nat) (fx fy : Bool) (m : Nat) (v : Value) (wr : World) : Prop :=
  ∃ i : Nat, v = .int .i64 i ∧ i + m = fs.length ∧ Mod wr B p g o c fs fx ∧ Ref wr B q h r d fs fy ∧ Below w.heap.size w wr

set_option maxHeartbeats 4000000 in
set_option maxRecDepth 100000 in
theorem same_c {w : World} {B p g o c q h r d : Nat} {fs : List Nat} {fx fy : Bool} (hm : Mod w B p g o c fs fx) (hr : Ref w B q h r d fs fy) (a : Nat) (ha : a ≤ 4294967295) :
    Calls Try.prog 12 #[.pointer (some ⟨p, 0, none⟩), .pointer (some ⟨q, 0, none⟩), .int .u32 (a : Int)] w (LowPost (.bool true) w) := by
  have hg := hm.good
  have hsum := hg.sum
  have hl64 := hg.len
  obtain ⟨r0, r1, rf⟩ := Has.two hr.hm
  go_enter Try.func12, Try.ntmps12
  go_wp2_with fail
  refine (sum_c hr fs.length (Nat.le_refl _)).mono ?_
  rintro e w1 ⟨rfl, rfl⟩
  rw [List.take_length]
  have HST := Aside0.mk (⟨0, rfl, by omega, hm, hr, Below.refl _ w⟩ : SameRel w B p g o c q h r d fs fx fy fs.length (.int .i64 ((0 : Nat) : Int)) w)
  clear hm hr
  go_wp2_with fail
  clear r0 r1 rf
  go_loopg [23] fs.length (fun m v wr => SameRel w B p g o c q h r d fs fx fy m v wr)
  case atStart => exact HST.out
  case round =>
    clear HST
    obtain ⟨i, rfl, hi, hm, hr, hb⟩ := hrel
    by_cases hlt : i < fs.length
    · cases gk with
      | zero => omega
      | succ gk =>
      go_wp2_with fail
      refine (part_c hm i hlt).mono ?_
      rintro e w2 ⟨rfl, hb2⟩
      have hts := take_sum_succ hlt
      have htl := take_sum_le fs (i + 1)
      have hpos : 1 ≤ fs.getD i 0 := by simp [hlt]; exact hg.pos _ (List.getElem_mem hlt)
      have hf1 := find_hit (a := (fs.take i).sum) hlt (by omega) (by omega)
      have hf2 := find_hit (a := (fs.take i).sum + fs.getD i 0 - 1) hlt (by omega) (by omega)
      have hx := i64s_at hlt
      obtain ⟨x, hxe⟩ : ∃ x, fs.getD i 0 = x := ⟨_, rfl⟩
      rw [hxe] at hts hpos hf2 hx
      obtain ⟨S, hS⟩ : ∃ S, (fs.take i).sum = S := ⟨_, rfl⟩
      rw [hS] at hts hf1 hf2
      rw [show part fs i = .agg #[.int .u32 (S : Int), .int .u32 (x : Int), .int .u32 (fs.sum : Int)] by unfold part; rw [hS, hxe]]
      have hb3 := hb2.alloc hb2.size (.cells #[.int .u32 (S : Int), .int .u32 (x : Int), .int .u32 (fs.sum : Int)] 36)
      have hbx := Has.new w2 36 [.int .u32 (S : Int), .int .u32 (x : Int), .int .u32 (fs.sum : Int)]
      have hm3 := hm.below hb3
      have hr3 := hr.below hb3
      have hb4 := hb.trans (hb3.mono hb.size)
      clear hm hr hb2
      have hN : S + x - 1 + 1 = S + x := by omega
      have hr17 : ∀ n, Calls Try.prog 17 #[.pointer (some ⟨q, 0, none⟩), .int .i64 (i : Int)] ((w2.alloc (.cells #[.int .u32 (S : Int), .int .u32 (x : Int), .int .u32 (fs.sum : Int)] 36)).drewN n) fun e w' => e = .returned (.int .i64 (S : Int)) ∧ w' = (w2.alloc (.cells #[.int .u32 (S : Int), .int .u32 (x : Int), .int .u32 (fs.sum : Int)] 36)).drewN n := by
        intro n; have := sum_q hr3 i (by omega) n; rwa [hS] at this
      have hr13 : ∀ n, Calls Try.prog 13 #[.pointer (some ⟨p, 0, none⟩), .int .u32 (S : Int)] ((w2.alloc (.cells #[.int .u32 (S : Int), .int .u32 (x : Int), .int .u32 (fs.sum : Int)] 36)).drewN n) fun e w' => e = .returned (.int .i64 (i : Int)) ∧ w' = (w2.alloc (.cells #[.int .u32 (S : Int), .int .u32 (x : Int), .int .u32 (fs.sum : Int)] 36)).drewN n := by
        intro n; have := find_q hm3 S (by omega) n; rwa [hf1] at this
      have hr13' : ∀ n, Calls Try.prog 13 #[.pointer (some ⟨p, 0, none⟩), .int .u32 ((S : Int) + (x : Int) - 1)] ((w2.alloc (.cells #[.int .u32 (S : Int), .int .u32 (x : Int), .int .u32 (fs.sum : Int)] 36)).drewN n) fun e w' => e = .returned (.int .i64 (i : Int)) ∧ w' = (w2.alloc (.cells #[.int .u32 (S : Int), .int .u32 (x : Int), .int .u32 (fs.sum : Int)] 36)).drewN n := by
        intro n; have := find_q hm3 (S + x - 1) (by omega) n; rw [hf2] at this
        rwa [show (((S + x - 1 : Nat)) : Int) = (S : Int) + (x : Int) - 1 by omega] at this
      have hrc := hr3.cells i hlt
      rw [hx] at hrc
      obtain ⟨c0, c1, cf⟩ := Has.two hr3.hm
      obtain ⟨b0, b1, b2, bf⟩ := hbx.three
      go_wp2_with fail
      obtain ⟨w3, hw3⟩ : ∃ w3, w2.alloc (.cells #[.int .u32 (S : Int), .int .u32 (x : Int), .int .u32 (fs.sum : Int)] 36) = w3 := ⟨_, rfl⟩
      rw [hw3] at hm3 hr3 hb4 hr17 hr13 hr13' hrc c0 c1 cf b0 b1 b2 bf ⊢
      have H3 := Aside0.mk (And.intro hm3 (And.intro hr3 hb4))
      have H17 := Aside0.mk hr17
      have H13 := Aside0.mk hr13
      have H13' := Aside0.mk hr13'
      clear hm3 hr3 hb4 hr17 hr13 hr13' hbx hb3 hw3 hx hf1 hf2
      have hil : (i : Int) < (fs.length : Int) := by omega
      have hwS : IntKind.i64.wrap (S : Int) = (S : Int) := IntWalk.i64_in _ (by omega)
      have hwx : IntKind.i64.wrap (x : Int) = (x : Int) := IntWalk.i64_in _ (by omega)
      have hwT : IntKind.i64.wrap (fs.sum : Int) = (fs.sum : Int) := IntWalk.i64_in _ (by omega)
      have hwp : IntKind.u32.wrap ((S : Int) + (x : Int)) = (S : Int) + (x : Int) := IntWalk.u32_in _ (by omega)
      have hwm : IntKind.u32.wrap ((S : Int) + (x : Int) - 1) = (S : Int) + (x : Int) - 1 := IntWalk.u32_in _ (by omega)
      go_quiet (first | (go_at_call 17; with_reducible exact Calls.quiet_of_same (H17.out _)) | (go_at_call 13; first | with_reducible exact Calls.quiet_of_same (H13.out _) | with_reducible exact Calls.quiet_of_same (H13'.out _)))
      go_wp2_with fail
      go_roundg gk
      case measure => omega
      case rel => exact ⟨i + 1, by go_num, by omega, H3.out.1.below (below_drewN _ _), H3.out.2.1.below (below_drewN _ _), H3.out.2.2.trans ((below_drewN w3 _).mono H3.out.2.2.size)⟩
    · have ha9 : a % 9000 ≤ 4294967295 := by omega
      have h9 : Int.tmod (a : Int) 9000 = ((a % 9000 : Nat) : Int) := by rw [Int.tmod_eq_emod_of_nonneg (by omega)]; omega
      obtain ⟨b, hb9⟩ : ∃ b, a % 9000 = b := ⟨_, rfl⟩
      rw [hb9] at ha9 h9
      have HL := Aside0.mk (fun n => len_q hm n)
      have HF := Aside0.mk (fun n => find_q hm a ha n)
      have HG := Aside0.mk (fun n => find_q hm b ha9 n)
      have RF := Aside0.mk (fun n => rfind_q hr a ha n)
      have RG := Aside0.mk (fun n => rfind_q hr b ha9 n)
      obtain ⟨c0, c1, cf⟩ := Has.two hr.hm
      have HB := Aside0.mk hb
      have hwa : IntKind.i64.wrap (a : Int) = (a : Int) := IntWalk.i64_in _ (by omega)
      have hwb : IntKind.i64.wrap (b : Int) = (b : Int) := IntWalk.i64_in _ (by omega)
      have hub : IntKind.u32.wrap (b : Int) = (b : Int) := IntWalk.u32_in _ (by omega)
      clear hm hr hb
      go_wp2_with fail
      go_quiet (first | (go_at_call 14; with_reducible exact Calls.quiet_of_same (HL.out _)) | (go_at_call 13; first | with_reducible exact Calls.quiet_of_same (HF.out _) | with_reducible exact Calls.quiet_of_same (HG.out _)) | (go_at_call 18; first | with_reducible exact Calls.quiet_of_same (RF.out _) | with_reducible exact Calls.quiet_of_same (RG.out _)))
      go_wp2_with fail
      refine bodyPost_ret (v := .bool true) (by simp [results, Try.results12, go_sem, *]) rfl ⟨rfl, ?_⟩
      exact HB.out.trans ((below_drewN wr _).mono HB.out.size)
end Go.Proofs.Ytlcehlccaepncaa.Own
