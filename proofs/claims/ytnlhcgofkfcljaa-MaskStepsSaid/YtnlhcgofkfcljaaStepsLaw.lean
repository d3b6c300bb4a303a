/-
  The law MaskSteps, walked: whatever the input, it returns true, and nothing that was there before the call has changed.
-/
import Derived.Test.YtnlhcgofkfcljaaStepsWalk
set_option linter.unusedVariables false
set_option linter.unusedSimpArgs false
namespace Go.Proofs.Ytnlhcgofkfcljaa.Own
open Go.RowKit Go.Proofs.YtnlhcgofkfcljaaW.PrintWords Go.Proofs.YtnlhcgofkfcljaaW.PrintLast Go.Proofs.YtnlhcgofkfcljaaW.PrintMore Go.Proofs.Ytnlhcgofkfcljaa.H Go.Proofs.Ytnlhcgofkfcljaa.PMaskArgs

/-- What the law's loops rest on: the ceilings, their clone, the two numbers that are gone through. -/
structure Ctx (w wr : World) (gc : Nat) (Ao : Option Addr) (c : List Int) (bq : Nat) (q0 q1 : Int) : Prop where
  ceils : Ceils c
  rc : Row wr (some ⟨gc, 0, none⟩) c
  ro : Row wr Ao c
  hq : Has wr bq 3 [.int .i64 q0, .int .i64 q1]
  hb : Below w.heap.size w wr

theorem Ctx.step {w wr w' : World} {gc : Nat} {Ao : Option Addr} {c : List Int} {bq : Nat} {q0 q1 : Int} (h : Ctx w wr gc Ao c bq q0 q1) (hb : Below wr.heap.size wr w') : Ctx w w' gc Ao c bq q0 q1 :=
  ⟨h.ceils, h.rc.below hb, h.ro.below hb, h.hq.below hb h.hq.lt, h.hb.trans (hb.mono h.hb.size)⟩

def OutRel (w : World) (gc : Nat) (Ao : Option Addr) (c : List Int) (bq : Nat) (q0 q1 : Int) (d : Nat) (v : Value) (wr : World) : Prop :=
  ∃ i : Nat, v = .int .i64 i ∧ i + d = 2 ∧ Ctx w wr gc Ao c bq q0 q1
def InRel (w : World) (gc : Nat) (Ao : Option Addr) (c : List Int) (bq : Nat) (q0 q1 : Int) (bx : Nat) (x0 x1 : Int) (d : Nat) (v : Value) (wr : World) : Prop :=
  ∃ i : Nat, v = .int .i64 i ∧ i + d = 2 ∧ Ctx w wr gc Ao c bq q0 q1 ∧ Has wr bx 3 [.int .i64 x0, .int .i64 x1]

theorem two_cells {w : World} {b : Nat} {q0 q1 : Int} (h : Has w b 3 [.int .i64 q0, .int .i64 q1]) (i : Nat) (hi : i < 2) : ∃ q, w.cell? ⟨b, i, none⟩ = some (.int .i64 q) := by
  rw [h.cell i]
  match i, hi with
  | 0, _ => exact ⟨_, rfl⟩
  | 1, _ => exact ⟨_, rfl⟩

set_option maxHeartbeats 2000000 in
set_option maxRecDepth 100000 in
theorem steps_law_c (A0 : Option Addr) (c0 : Nat) (l0 : List Int) (a1 a2 : Int) (w : World) (hr0 : Kd.C (Kd.int .u8) w A0 l0.length l0) (hc0 : l0.length ≤ c0) (hlm : l0.length ≤ maxLen) (hw : ∀ x ∈ l0, 0 ≤ x ∧ x ≤ 255)
    (h1 : -9223372036854775808 ≤ a1 ∧ a1 ≤ 9223372036854775807) (h2 : -9223372036854775808 ≤ a2 ∧ a2 ≤ 9223372036854775807) :
    Calls Try.prog 5 #[.slice A0 l0.length c0, .int .i64 a1, .int .i64 a2] w fun e w' => e = .returned (.bool true) ∧ Below w.heap.size w w' := by
  have HR := Aside0.mk hr0
  have HW := Aside0.mk hw
  clear hr0 hw h1 h2
  unfold maxLen at hlm
  by_cases hl : l0.length ≤ 60
  · have d1 : decide (60 < (l0.length : Int)) = false := by simp; omega
    have d2 : decide (60 < l0.length) = false := by simp; omega
    go_enter Try.func5, Try.ntmps5
    go_wp2_with fail
    refine (lives_c _).mono ?_; rintro e w1 ⟨rfl, hb1⟩
    go_wp2_with fail
    refine (ceil_c A0 c0 l0 _ (Kd.C_below HR.out hb1) hc0 hl HW.out).mono ?_
    rintro e w2 ⟨c, rfl, hc, hh, hb2⟩
    clear HR HW
    go_wp2_with fail
    refine (clone_c _ _ c _ (Row.of_has hc.1 hh)).mono ?_
    rintro e w3 ⟨Ao, co, rfl, hco, hro, hb3⟩
    have hrow := (Row.of_has hc.1 hh).below hb3
    have hb := (hb1.trans (hb2.mono hb1.size))
    replace hb := hb.trans (hb3.mono hb.size)
    clear hb1 hb2 hb3 hh
    go_wp2_with fail
    generalize wrap64 (1 + wrap64 ((IntKind.u64.wrap a1).tmod 10)) = q1
    go_loopg [37] 2 (fun d v wr => OutRel w w1.heap.size Ao c w3.heap.size a1 q1 d v wr)
    case atStart => exact ⟨0, rfl, rfl, ⟨hc, hrow.alloc _, hro.alloc _, Has.new w3 3 _, hb.alloc hb.size _⟩⟩
    case round =>
      obtain ⟨i, rfl, hi, hx⟩ := hrel
      clear hro hrow hb
      by_cases hlt : i < 2
      · cases gk with
        | zero => omega
        | succ go =>
        obtain ⟨q, hcq⟩ := two_cells hx.hq i hlt
        have hdi : decide ((i : Int) < 2) = true := by simp; omega
        go_wp2_with fail
        obtain ⟨wo, rfl⟩ : ∃ wo : World, wo = wr := ⟨_, rfl⟩
        generalize wrap64 ((IntKind.u64.wrap a2).tmod 32) = x1
        go_loopg [48] 2 (fun d v wr => InRel w w1.heap.size Ao c w3.heap.size a1 q1 wo.heap.size a2 x1 d v wr)
        case atStart => exact ⟨0, rfl, rfl, hx.step ((Below.refl _ _).alloc (Nat.le_refl _) _), Has.new wo 3 _⟩
        case round =>
          clear hcq
          obtain ⟨j, rfl, hj, hy, hhx⟩ := hrel
          clear hx
          by_cases hlt2 : j < 2
          · cases gk with
            | zero => omega
            | succ gk =>
            obtain ⟨x, hcx⟩ := two_cells hhx j hlt2
            by_cases hv : 1 ≤ q ∧ q ≤ 10 ∧ 0 ≤ x ∧ x ≤ 31
            · have e1 : decide (q < 1) = false := by simp; omega
              have e2 : decide (10 < q) = false := by simp; omega
              have e3 : decide (x < 0) = false := by simp; omega
              have e4 : decide (31 < x) = false := by simp; omega
              go_wp2_with fail
              refine (steps_c _ _ c q x _ hy.ro hco hc (by omega) (by omega)).mono ?_
              rintro e w4 ⟨A1, k1, rfl, hk1, hs1, hb4⟩
              replace hy := hy.step hb4
              replace hhx := hhx.below hb4 hhx.lt
              clear hb4
              go_wp2_with fail
              have hcs := stepsL_ceils c q x hc (by omega) (by omega)
              refine (reach_c _ _ _ _ c _ _ hy.ro hs1 hco hk1 hc hcs).mono ?_
              rintro e w5 ⟨rfl, hb5⟩
              replace hy := hy.step hb5
              replace hs1 := hs1.below hb5
              replace hhx := hhx.below hb5 hhx.lt
              clear hb5
              go_wp2_with fail
              refine (refsteps_c _ _ c q x _ hy.rc (Nat.le_refl _) hc (by omega) (by omega)).mono ?_
              rintro e w6 ⟨A2, k2, rfl, hk2, hs2, hb6⟩
              replace hy := hy.step hb6
              replace hs1 := hs1.below hb6
              replace hhx := hhx.below hb6 hhx.lt
              clear hb6
              go_wp2_with fail
              refine (equal_c _ _ _ _ _ _ hs1 hs2).mono ?_
              rintro e w7 ⟨rfl, hd7⟩
              have hb7 := hd7.below
              replace hy := hy.step hb7
              replace hs1 := hs1.below hb7
              replace hhx := hhx.below hb7 hhx.lt
              clear hb7 hd7 hs2
              go_wp2_with fail
              refine (refreach_k 106 rfl _ _ _ _ c _ _ hy.rc hs1 (Nat.le_refl _) hk1 hc hcs).mono ?_
              rintro e w8 ⟨rfl, hb8⟩
              replace hy := hy.step hb8
              replace hhx := hhx.below hb8 hhx.lt
              clear hb8 hs1
              go_wp2_with fail
              refine (equal_c _ _ _ _ _ _ hy.ro hy.rc).mono ?_
              rintro e w9 ⟨rfl, hd9⟩
              have hb9 := hd9.below
              replace hy := hy.step hb9
              replace hhx := hhx.below hb9 hhx.lt
              clear hb9 hd9
              go_wp2_with fail
              go_roundg gk
              case measure => omega
              case rel => exact ⟨j + 1, by go_num, by omega, hy, hhx⟩
            · have hv' : (decide (q < 1) = true) ∨ (decide (q < 1) = false ∧ decide (10 < q) = true) ∨ (decide (q < 1) = false ∧ decide (10 < q) = false ∧ decide (x < 0) = true) ∨ (decide (q < 1) = false ∧ decide (10 < q) = false ∧ decide (x < 0) = false ∧ decide (31 < x) = true) := by
                simp only [decide_eq_true_eq, decide_eq_false_iff_not]; omega
              have hv2 : q < 1 ∨ q > 10 ∨ x < 0 ∨ x > 31 := by omega
              have HV := Aside0.mk hv2
              clear hv hv2
              rcases hv' with e1 | ⟨e1, e2⟩ | ⟨e1, e2, e3⟩ | ⟨e1, e2, e3, e4⟩
              all_goals
                go_wp2_with fail
                refine (steps_no _ _ c q x _ hy.ro hco HV.out).mono ?_
                rintro e w4 ⟨A1, k1, rfl, hb4⟩
                replace hy := hy.step hb4
                replace hhx := hhx.below hb4 hhx.lt
                clear hb4
                go_wp2_with fail
                go_roundg gk
                case measure => omega
                case rel => exact ⟨j + 1, by go_num, by omega, hy, hhx⟩
          · go_wp2_with fail
            go_roundg go
            case measure => omega
            case rel => exact ⟨i + 1, by go_num, by omega, hy⟩
      · go_wp2_with fail
        go_ret
        exact ⟨rfl, hx.hb⟩
  · have d1 : decide (60 < (l0.length : Int)) = true := by simp; omega
    have d2 : decide (60 < l0.length) = true := by simp; omega
    go_enter Try.func5, Try.ntmps5
    go_wp2_with fail
    refine (lives_c _).mono ?_; rintro e w1 ⟨rfl, hb1⟩
    go_wp2_with fail
    refine (lives_c _).mono ?_; rintro e w2 ⟨rfl, hb2⟩
    go_wp2_with fail
    go_ret
    exact ⟨rfl, hb1.trans (hb2.mono hb1.size)⟩
end Go.Proofs.Ytnlhcgofkfcljaa.Own
