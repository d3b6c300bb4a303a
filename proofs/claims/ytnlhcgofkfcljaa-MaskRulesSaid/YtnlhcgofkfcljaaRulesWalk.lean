/-
  The walk of MaskRules: whatever the input, it returns true, and nothing that was there before the call has changed.
-/
import Derived.Test.YtnlhcgofkfcljaaOwn
set_option linter.unusedVariables false
set_option linter.unusedSimpArgs false
namespace Go.Proofs.Ytnlhcgofkfcljaa.Own
open Go.RowKit Go.Proofs.YtnlhcgofkfcljaaW.PrintWords Go.Proofs.YtnlhcgofkfcljaaW.PrintLast Go.Proofs.YtnlhcgofkfcljaaW.PrintMore Go.Proofs.Ytnlhcgofkfcljaa.H Go.Proofs.Ytnlhcgofkfcljaa.PMaskArgs

/-- What MaskRules asks of each band. -/
def Rules (a b d s : Int) (n : Int) : Prop := b ≤ a ∧ a ≤ d ∧ a ≤ n ∧ 0 ≤ a ∧ n - a ≤ 12 ∧ s = n ∧ 0 ≤ n ∧ n ≤ 26

theorem rules_at (l : List Int) (hl : Ceils l) (q x : Int) (hq : 1 ≤ q ∧ q ≤ 9) (hx : 0 ≤ x ∧ x ≤ 30) (i : Nat) (hi : i < 21) :
    Rules (rd (stepsL l q x) i) (rd (stepsL l (q + 1) x) i) (rd (stepsL l q (x + 1)) i) (rd (stepsL l q 31) i) (rd l i) := by
  rw [stepsL_at _ _ _ _ hi, stepsL_at _ _ _ _ hi, stepsL_at _ _ _ _ hi, stepsL_at _ _ _ _ hi]
  have := thr0 hl.1 hl.2 hi
  unfold Rules stepOf mx mn
  omega

theorem q_is (a : Int) (h : -9223372036854775808 ≤ a ∧ a ≤ 9223372036854775807) : ∃ q, wrap64 (1 + wrap64 ((IntKind.u64.wrap a).tmod 9)) = q ∧ 1 ≤ q ∧ q ≤ 9 := by
  refine ⟨_, rfl, ?_⟩
  rw [IntKind.wrap_u64, Int.tmod_eq_emod_of_nonneg (by omega)]
  unfold wrap64; omega
theorem x_is (a : Int) (h : -9223372036854775808 ≤ a ∧ a ≤ 9223372036854775807) : ∃ q, wrap64 ((IntKind.u64.wrap a).tmod 31) = q ∧ 0 ≤ q ∧ q ≤ 30 := by
  refine ⟨_, rfl, ?_⟩
  rw [IntKind.wrap_u64, Int.tmod_eq_emod_of_nonneg (by omega)]
  unfold wrap64; omega
theorem told_q (a b : Int) (w : World) : Calls Try.prog 9 #[.int .i64 a, .int .i64 b] w fun e w' => e = .returned (.bool (decide (b < a))) ∧ w' = w :=
  (told_c a b w).mono fun _ _ h => ⟨h.1, h.2.symm⟩
/-- At each band: what is read, and that no rule is broken. -/
def Five (w : World) (b0 : Nat) (d1 d2 d3 d4 : Addr) : Prop := ∀ i : Nat, i < 21 → ∃ n a b d z : Int,
  w.cell? ⟨b0, i, none⟩ = some (.int .i64 n) ∧ w.cell? (d1.add i) = some (.int .i64 a) ∧ w.cell? (d2.add i) = some (.int .i64 b) ∧ w.cell? (d3.add i) = some (.int .i64 d) ∧ w.cell? (d4.add i) = some (.int .i64 z) ∧
  decide (a < b) = false ∧ decide (d < a) = false ∧ decide (n < a) = false ∧ decide (a < 0) = false ∧ decide (12 < IntKind.i64.wrap (n - a)) = false ∧ (z != n) = false ∧ decide (z < n) = false
theorem five_mk {w : World} {b0 : Nat} {d1 d2 d3 d4 : Addr} {c xa xb xd xz : List Int} (h : ∀ i : Nat, i < 21 → Rules (rd xa i) (rd xb i) (rd xd i) (rd xz i) (rd c i))
    (x0 : ∀ i : Nat, i < 21 → w.cell? ⟨b0, i, none⟩ = some (.int .i64 (rd c i))) (x1 : ∀ i : Nat, i < 21 → w.cell? (d1.add i) = some (.int .i64 (rd xa i))) (x2 : ∀ i : Nat, i < 21 → w.cell? (d2.add i) = some (.int .i64 (rd xb i)))
    (x3 : ∀ i : Nat, i < 21 → w.cell? (d3.add i) = some (.int .i64 (rd xd i))) (x4 : ∀ i : Nat, i < 21 → w.cell? (d4.add i) = some (.int .i64 (rd xz i))) : Five w b0 d1 d2 d3 d4 := by
  intro i hi
  obtain ⟨r1, r2, r3, r4, r5, r6, r7, r8⟩ := h i hi
  refine ⟨_, _, _, _, _, x0 i hi, x1 i hi, x2 i hi, x3 i hi, x4 i hi, ?_⟩
  refine ⟨by simp; omega, by simp; omega, by simp; omega, by simp; omega, ?_, by simp; omega, by simp; omega⟩
  rw [IntWalk.i64_in _ (by omega)]; simp; omega
theorem five_drawn {w w' : World} {b0 : Nat} {d1 d2 d3 d4 : Addr} (h : Five w b0 d1 d2 d3 d4) (hd : Drawn0 w w') : Five w' b0 d1 d2 d3 d4 := by
  obtain ⟨n, rfl⟩ := hd
  intro i hi
  simpa using h i hi
set_option maxHeartbeats 2000000 in
set_option maxRecDepth 100000 in
theorem rules_c (A0 : Option Addr) (c0 : Nat) (l0 : List Int) (a1 a2 : Int) (w : World) (hr0 : Kd.C (Kd.int .u8) w A0 l0.length l0) (hc0 : l0.length ≤ c0) (hlm : l0.length ≤ maxLen) (hw : ∀ x ∈ l0, 0 ≤ x ∧ x ≤ 255)
    (h1 : -9223372036854775808 ≤ a1 ∧ a1 ≤ 9223372036854775807) (h2 : -9223372036854775808 ≤ a2 ∧ a2 ≤ 9223372036854775807) :
    Calls Try.prog 3 #[.slice A0 l0.length c0, .int .i64 a1, .int .i64 a2] w fun e w' => e = .returned (.bool true) ∧ Below w.heap.size w w' := by
  have HR := Aside0.mk hr0
  have HW := Aside0.mk hw
  clear hr0 hw
  unfold maxLen at hlm
  by_cases hl : l0.length ≤ 60
  · have d1 : decide (60 < (l0.length : Int)) = false := by simp; omega
    have d2 : decide (60 < l0.length) = false := by simp; omega
    go_enter Try.func3, Try.ntmps3
    go_wp2_with fail
    refine (lives_c _).mono ?_; rintro e w1 ⟨rfl, hb1⟩
    go_wp2_with fail
    refine (ceil_c A0 c0 l0 _ (Kd.C_below HR.out hb1) hc0 hl HW.out).mono ?_
    rintro e w2 ⟨c, rfl, hc, hh, hb2⟩
    clear HR HW
    have hrow := Row.of_has hc.1 hh
    have hb := hb1.trans (hb2.mono hb1.size)
    obtain ⟨q, hq, hq1⟩ := q_is a1 h1
    obtain ⟨x, hx, hx1⟩ := x_is a2 h2
    have HQ := Aside0.mk hq
    have HX := Aside0.mk hx
    clear hq hx h1 h2
    go_wp2_with fail
    rw [HQ.out, HX.out]
    clear HQ HX
    refine (steps_c _ _ c q x _ hrow (Nat.le_refl _) hc (by omega) (by omega)).mono ?_
    rintro e w3 ⟨A1, k1, rfl, hk1, hr1, hb3⟩
    replace hrow := hrow.below hb3
    replace hb := hb.trans (hb3.mono hb.size)
    go_wp2_with fail
    refine (steps_c _ _ c (q + 1) x _ hrow (Nat.le_refl _) hc (by omega) (by omega)).mono ?_
    rintro e w4 ⟨A2, k2, rfl, hk2, hr2, hb4⟩
    replace hrow := hrow.below hb4
    replace hr1 := hr1.below hb4
    replace hb := hb.trans (hb4.mono hb.size)
    go_wp2_with fail
    refine (steps_c _ _ c q (x + 1) _ hrow (Nat.le_refl _) hc (by omega) (by omega)).mono ?_
    rintro e w5 ⟨A3, k3, rfl, hk3, hr3, hb5⟩
    replace hrow := hrow.below hb5
    replace hr1 := hr1.below hb5
    replace hr2 := hr2.below hb5
    replace hb := hb.trans (hb5.mono hb.size)
    go_wp2_with fail
    refine (steps_c _ _ c q 31 _ hrow (Nat.le_refl _) hc (by omega) (by omega)).mono ?_
    rintro e w6 ⟨A4, k4, rfl, hk4, hr4, hb6⟩
    replace hrow := hrow.below hb6
    replace hr1 := hr1.below hb6
    replace hr2 := hr2.below hb6
    replace hr3 := hr3.below hb6
    replace hb := hb.trans (hb6.mono hb.size)
    clear hb1 hb2 hb3 hb4 hb5 hb6 hh
    obtain ⟨ad0, e0, x0⟩ := hrow.at
    obtain ⟨ad1, rfl, x1⟩ := hr1.at
    obtain ⟨ad2, rfl, x2⟩ := hr2.at
    obtain ⟨ad3, rfl, x3⟩ := hr3.at
    obtain ⟨ad4, rfl, x4⟩ := hr4.at
    obtain rfl := Option.some.inj e0
    replace x0 : ∀ i : Nat, i < 21 → w6.cell? ⟨w1.heap.size, i, none⟩ = some (.int .i64 (rd c i)) := fun i hi => by rw [← x0 i hi, add_at, Nat.zero_add]
    have X := Aside0.mk (five_mk (fun i hi => rules_at c hc q x (by omega) (by omega) i hi) x0 x1 x2 x3 x4)
    have HB := Aside0.mk hb
    clear x0 x1 x2 x3 x4 e0 hr1 hr2 hr3 hr4 hrow hb
    go_wp2_with fail
    go_loopg [84] 21 (fun k v w' => ∃ i : Nat, v = .int .i64 i ∧ i + k = 21 ∧ Drawn0 w6 w')
    case atStart => exact ⟨0, rfl, rfl, Drawn0.refl _⟩
    case round =>
      obtain ⟨i, rfl, hi, hdr⟩ := hrel
      have HD := Aside0.mk hdr
      clear hdr
      by_cases hlt : i < 21
      · cases gk with
        | zero => omega
        | succ gk =>
        obtain ⟨n, a, b, d, z, y0, y1, y2, y3, y4, g0, g1, g2, g3, g4, g5, g6⟩ := five_drawn X.out HD.out i hlt
        go_wp2_with fail
        go_quiet ((go_at_call 9; exact Calls.quiet_of_same (told_q _ _ _)))
        go_wp2_with fail
        go_roundg gk
        case measure => omega
        case rel => exact ⟨i + 1, by go_num, by omega, Drawn0.step HD.out _⟩
      · go_wp2_with fail
        go_ret
        exact ⟨rfl, HB.out.trans ((Drawn0.below HD.out).mono HB.out.size)⟩
  · have d1 : decide (60 < (l0.length : Int)) = true := by simp; omega
    have d2 : decide (60 < l0.length) = true := by simp; omega
    go_enter Try.func3, Try.ntmps3
    go_wp2_with fail
    refine (lives_c _).mono ?_; rintro e w1 ⟨rfl, hb1⟩
    go_wp2_with fail
    refine (lives_c _).mono ?_; rintro e w2 ⟨rfl, hb2⟩
    go_wp2_with fail
    go_ret
    exact ⟨rfl, hb1.trans (hb2.mono hb1.size)⟩
end Go.Proofs.Ytnlhcgofkfcljaa.Own
