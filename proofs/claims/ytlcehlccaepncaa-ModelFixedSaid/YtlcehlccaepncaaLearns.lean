/-
  The walk of ModelLearns: whatever the input, it returns true, and nothing that was there before the call has changed.
-/
import Derived.Test.YtlcehlccaepncaaSame
import Derived.Test.YtlcehlccaepncaaNil
set_option linter.unusedVariables false
set_option linter.unusedSimpArgs false
namespace Go.Proofs.Ytlcehlccaepncaa.Own
open Go.RowKit Go.Proofs.YtlcehlccaepncaaW.PrintWords Go.Proofs.YtlcehlccaepncaaW.PrintMore Go.Proofs.Ytlcehlccaepncaa.H

theorem C_at {k : IntKind} {w : World} {A : Option Addr} {n : Nat} {xs : List Int} (h : Kd.C (Kd.int k) w A n xs) (hn : 0 < n) : ∃ ad, A = some ad ∧ ∀ j, j < n → w.cell? (ad.add j) = some (.int k (xs.getD j 0)) := by
  have hl : xs.length = n := h.1
  obtain ⟨_, _, h3⟩ := news_of_C h
  obtain ⟨ad, hA, hc⟩ := h3 hn
  exact ⟨ad, hA, fun j hj => hc j _ (by simp [show j < xs.length by omega])⟩

section
variable {w : World} {B B' p g o c : Nat} {fs : List Nat} {fx : Bool}
theorem Mod.lower (h : Mod w B p g o c fs fx) (hb : B' ≤ B) : Mod w B' p g o c fs fx := ⟨h.good, Nat.le_trans hb h.hp, h.hm, q_lower h.hq hb⟩
theorem Ref.lower (h : Ref w B p g o c fs fx) (hb : B' ≤ B) : Ref w B' p g o c fs fx := ⟨h.len, h.sum, Nat.le_trans hb h.hp, h.hm, q_lower h.hq hb⟩
end

/-- At the head of the law's loop: the model and the reference hold the same numbers. -/
def TwoRel (w : World) (B p g o c q h r d K n : Nat) (m : Nat) (v : Value) (wr : World) : Prop :=
  ∃ (i : Nat) (fs : List Nat), v = .int .i64 i ∧ i + m = n ∧ fs.length = K ∧ Mod wr B p g o c fs false ∧ Ref wr B q h r d fs false ∧ Below w.heap.size w wr ∧ w.heap.size ≤ B

set_option maxHeartbeats 8000000 in
set_option maxRecDepth 100000 in
theorem learns_c (w : World) (a0 : Int) (h0 : -9223372036854775808 ≤ a0 ∧ a0 ≤ 9223372036854775807) (A : Option Addr) (cap : Nat) (l : List Int) (hC : Kd.C (Kd.int .u16) w A l.length l) (hc0 : l.length ≤ cap) (hlm : l.length ≤ maxLen) (hw : ∀ x ∈ l, 0 ≤ x ∧ x ≤ 65535)
    (a2 : Int) (h2 : 0 ≤ a2 ∧ a2 ≤ 4294967295) : Calls Try.prog 3 #[.int .i64 a0, .slice A l.length cap, .int .u32 a2] w fun e w' => e = .returned (.bool true) ∧ Below w.heap.size w w' := by
  have HC := Aside0.mk hC
  have HW := Aside0.mk hw
  clear hC hw
  unfold maxLen at hlm
  by_cases hl : l.length ≤ 600
  · have d1 : decide (600 < (l.length : Int)) = false := by simp; omega
    have d2 : decide (600 < l.length) = false := by simp; omega
    obtain ⟨k, hk⟩ : ∃ k, Int.tmod a0 70 = k := ⟨_, rfl⟩
    have hk1 : -70 < k ∧ k < 70 := by
      have h1 := Int.tmod_lt_of_pos a0 (b := 70) (by omega)
      have h2 := Int.lt_tmod_of_pos a0 (b := 70) (by omega)
      omega
    have hwk : IntKind.i64.wrap k = k := IntWalk.i64_in _ (by omega)
    by_cases hkk : 1 ≤ k ∧ k ≤ 64
    · obtain ⟨K, rfl⟩ : ∃ K : Nat, k = (K : Int) := ⟨k.toNat, by omega⟩
      obtain ⟨a, rfl⟩ : ∃ a : Nat, a2 = (a : Int) := ⟨a2.toNat, by omega⟩
      go_enter Try.func3, Try.ntmps3
      go_wp2_with fail
      refine (lives_c w).mono ?_
      rintro e w1 ⟨rfl, hb1⟩
      go_wp2_with fail
      refine (new_c K (by omega) w1).mono ?_
      rintro e w2 ⟨p, g, o, c, rfl, hm2, hb2⟩
      have hb12 := hb1.trans (hb2.mono hb1.size)
      go_wp2_with fail
      refine (rnew_c K (by omega) w2).mono ?_
      rintro e w3 ⟨q, h, r, d, rfl, hr3, hb3⟩
      have hst : TwoRel w w1.heap.size p g o c q h r d K l.length l.length (.int .i64 ((0 : Nat) : Int)) w3 :=
        ⟨0, _, rfl, by omega, by simp, hm2.below hb3, hr3.lower hb2.size, hb12.trans (hb3.mono hb12.size), hb1.size⟩
      have HST := Aside0.mk hst
      clear hst hm2 hr3 hb1 hb2 hb3 hb12
      go_wp2_with fail
      go_loopg [57] l.length (fun m v wr => TwoRel w w1.heap.size p g o c q h r d K l.length m v wr)
      case atStart => exact HST.out
      case round =>
        clear HST
        obtain ⟨i, fs, rfl, hi, hfl, hm, hr, hb, hB⟩ := hrel
        by_cases hlt : i < l.length
        · cases gk with
          | zero => omega
          | succ gk =>
          obtain ⟨ad, rfl, hcl⟩ := C_at (Kd.C_below HC.out hb) (by omega)
          have x0 := hcl i hlt
          have hx := HW.out (l.getD i 0) (by simp [hlt])
          obtain ⟨x, hxe⟩ : ∃ x, l.getD i 0 = x := ⟨_, rfl⟩
          rw [hxe] at x0 hx
          obtain ⟨s, hs⟩ : ∃ s : Nat, Int.tmod x ((K : Int) + 1) = (s : Int) := ⟨(Int.tmod x ((K : Int) + 1)).toNat, by have := Int.tmod_nonneg ((K : Int) + 1) hx.1; omega⟩
          have hsK : s ≤ K := by have := Int.tmod_lt_of_pos x (b := (K : Int) + 1) (by omega); omega
          have hws : IntKind.i64.wrap (s : Int) = (s : Int) := IntWalk.i64_in _ (by omega)
          have hwx : IntKind.i64.wrap x = x := IntWalk.i64_in _ (by omega)
          have hn0 : ((K : Int) + 1 == 0) = false := by simp; omega
          have hn1 : ¬ (K : Int) + 1 = 0 := by omega
          clear hcl hxe
          have HM := Aside0.mk (And.intro hm (And.intro hr (And.intro hb hB)))
          clear hm hr hb
          by_cases hsk : s = K
          · subst hsk
            go_wp2_with fail
            refine (learn_bad HM.out.1 s (.inr (by omega))).mono ?_
            rintro e w4 ⟨rfl, rfl⟩
            go_wp2_with fail
            refine (learn_bad HM.out.1 (-1) (.inl (by omega))).mono ?_
            rintro e w4 ⟨rfl, rfl⟩
            go_wp2_with fail
            go_roundg gk
            case measure => omega
            case rel => exact ⟨i + 1, fs, by go_num, by omega, hfl, HM.out.1, HM.out.2.1, HM.out.2.2.1, hB⟩
          · have hsl : s < fs.length := by omega
            go_wp2_with fail
            refine (learn_c HM.out.1 s hsl).mono ?_
            rintro e w4 ⟨rfl, hm4, hb4⟩
            have hap := HM.out.2.1.apart HM.out.1
            have hr4 := HM.out.2.1.but hb4 (by omega) (by omega)
            have hb4' := HM.out.2.2.1.trans (hb4.below HM.out.2.2.1.size (fun k hk => by have := HM.out.1.hp; have := HM.out.1.row.1; omega))
            go_wp2_with fail
            refine (rlearn_c hr4 HM.out.1.good s hsl).mono ?_
            rintro e w5 ⟨rfl, hr5, hb5⟩
            have hm5 := hm4.but hb5 (by omega) (by omega)
            have hb5' := hb4'.trans (hb5.below hb4'.size (fun k hk => by have := hr4.hp; have := hr4.row.1; omega))
            have H5 := Aside0.mk (And.intro hm5 (And.intro hr5 hb5'))
            clear hm4 hb4 hr4 hb4' hr5 hb5 hm5 hb5'
            go_wp2_with fail
            go_roundg gk
            case measure => omega
            case rel => exact ⟨i + 1, _, by go_num, by omega, by rw [learn_len]; exact hfl, H5.out.1, H5.out.2.1, H5.out.2.2, hB⟩
        · have HM := Aside0.mk (And.intro hm (And.intro hr (And.intro hb hB)))
          clear hm hr hb
          go_wp2_with fail
          refine (part_bad HM.out.1 K (.inr (by omega))).mono ?_
          rintro e w4 ⟨rfl, hb4⟩
          have hm4 := HM.out.1.below hb4
          have hr4 := HM.out.2.1.below hb4
          have hbw4 := HM.out.2.2.1.trans (hb4.mono HM.out.2.2.1.size)
          clear hb4
          unfold noPart
          have hal := (Below.refl w4.heap.size w4).alloc (Nat.le_refl _) (.cells #[.int .u32 0, .int .u32 0, .int .u32 0] 36)
          have hm5 := hm4.below hal
          have hr5 := hr4.below hal
          have hbw5 := hbw4.trans (hal.mono hbw4.size)
          clear hm4 hr4 hbw4 hal
          go_wp2_with fail
          refine (part_bad hm5 (-1) (.inl (by omega))).mono ?_
          rintro e w6 ⟨rfl, hb6⟩
          have hm6 := hm5.below hb6
          have hr6 := hr5.below hb6
          have hbw6 := hbw5.trans (hb6.mono hbw5.size)
          clear hm5 hr5 hbw5 hb6
          unfold noPart
          have hal := (Below.refl w6.heap.size w6).alloc (Nat.le_refl _) (.cells #[.int .u32 0, .int .u32 0, .int .u32 0] 36)
          have hm7 := hm6.below hal
          have hr7 := hr6.below hal
          have hbw7 := hbw6.trans (hal.mono hbw6.size)
          clear hm6 hr6 hbw6 hal
          go_wp2_with fail
          refine (same_c hm7 hr7 a (by omega)).mono ?_
          rintro e w8 ⟨rfl, hb8⟩
          have hbw8 := hbw7.trans (hb8.mono hbw7.size)
          clear hm7 hr7 hbw7 hb8
          go_wp2_with fail
          exact bodyPost_ret (v := .bool true) (by simp [results, Try.results3, go_sem, *]) rfl ⟨rfl, hbw8⟩
    · go_enter Try.func3, Try.ntmps3
      go_wp2_with fail
      refine (lives_c w).mono ?_
      rintro e w1 ⟨rfl, hb1⟩
      go_wp2_with fail
      refine (new_bad k (by omega) w1).mono ?_
      rintro e w2 ⟨rfl, rfl⟩
      go_wp2_with fail
      refine (rnew_bad k (by omega) w1).mono ?_
      rintro e w3 ⟨rfl, rfl⟩
      go_wp2_with fail
      exact bodyPost_ret (v := .bool true) (by simp [results, Try.results3, go_sem, *]) rfl ⟨rfl, hb1⟩
  · have d1 : decide (600 < (l.length : Int)) = true := by simp; omega
    have d2 : decide (600 < l.length) = true := by simp; omega
    go_enter Try.func3, Try.ntmps3
    go_wp2_with fail
    refine (lives_c w).mono ?_
    rintro e w1 ⟨rfl, hb1⟩
    go_wp2_with fail
    refine (lives_c w1).mono ?_
    rintro e w2 ⟨rfl, hb2⟩
    have hb := hb1.trans (hb2.mono hb1.size)
    clear hb1 hb2
    go_wp2_with fail
    exact bodyPost_ret (v := .bool true) (by simp [results, Try.results3, go_sem, *]) rfl ⟨rfl, hb⟩
end Go.Proofs.Ytlcehlccaepncaa.Own
