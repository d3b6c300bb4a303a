/-
  Contracts of the functions that MaskRules and MaskSteps call, as those laws need them.
-/
import Derived.Test.YtnlhcgofkfcljaaArgsMath
import Derived.Test.YtnlhcgofkfcljaaH
import Derived.WalkSpells
import Derived.WalkLawsBesides
set_option linter.unusedVariables false
set_option linter.unusedSimpArgs false
namespace Go.Proofs.Ytnlhcgofkfcljaa.Own
open Go.RowKit Go.Proofs.YtnlhcgofkfcljaaW.PrintWords Go.Proofs.YtnlhcgofkfcljaaW.PrintLast Go.Proofs.YtnlhcgofkfcljaaW.PrintMore Go.Proofs.Ytnlhcgofkfcljaa.H Go.Proofs.Ytnlhcgofkfcljaa.PMaskArgs

def ints (xs : List Int) : List Value := xs.map (Value.int .i64)
theorem ints_set (xs : List Int) (i : Nat) (x : Int) : ints (xs.set i x) = (ints xs).set i (.int .i64 x) := by simp [ints]
theorem mem_set {out : List Int} {i : Nat} {y a b : Int} (h : ∀ x ∈ out, a ≤ x ∧ x ≤ b) (hy : a ≤ y ∧ y ≤ b) : ∀ x ∈ out.set i y, a ≤ x ∧ x ≤ b := by
  intro x hx
  rcases List.mem_or_eq_of_mem_set hx with hx | rfl
  · exact h x hx
  · exact hy
theorem make21 : ∀ w, (Instr.makeSlice 24 (.int .i64 21) (.int .i64 21)).run Try.prog w = .ok (.slice (some ⟨w.heap.size, 0, none⟩) 21 21) (w.alloc (.cells (ints (List.replicate 21 0)).toArray 3)) := fun _ => by kernel_rfl

/-- 21 ceilings. -/
def Ceils (xs : List Int) : Prop := xs.length = 21 ∧ ∀ x ∈ xs, 0 ≤ x ∧ x ≤ 26

def CeilRel (w : World) (d : Nat) (v8 : Value) (w' : World) : Prop := ∃ (i : Nat) (out : List Int), v8 = .int .i64 i ∧ i + d = 21 ∧ Ceils out ∧ Has w' w.heap.size 3 (ints out) ∧ Below w.heap.size w w'

def CeilPost (w : World) (e : Ending) (w' : World) : Prop := ∃ xs, e = .returned (.slice (some ⟨w.heap.size, 0, none⟩) 21 21) ∧ Ceils xs ∧ Has w' w.heap.size 3 (ints xs) ∧ Below w.heap.size w w'

set_option maxHeartbeats 1000000 in
theorem ceil_c (A0 : Option Addr) (c0 : Nat) (l0 : List Int) (w : World) (hr0 : Kd.C (Kd.int .u8) w A0 l0.length l0) (hc0 : l0.length ≤ c0) (hl : l0.length ≤ 60) (hw : ∀ x ∈ l0, 0 ≤ x ∧ x ≤ 255) :
    Calls Try.prog 7 #[.slice A0 l0.length c0] w (CeilPost w) := by
  have HR := Aside0.mk hr0
  have HW := Aside0.mk hw
  clear hr0 hw
  have hmk := make21
  go_enter Try.func7, Try.ntmps7
  go_wp2
  go_loopg [8] 21 (fun d v8 w' => CeilRel w d v8 w')
  case atStart => exact ⟨0, List.replicate 21 0, rfl, rfl, ⟨by simp, by simp⟩, Has.new w 3 _, (Below.refl _ _).alloc (Nat.le_refl _) _⟩
  case round =>
    obtain ⟨i, out, rfl, hi, ⟨ho, hx⟩, hh, hb⟩ := hrel
    by_cases hlt : i < 21
    · cases gk with
      | zero => omega
      | succ gk =>
      by_cases h0 : 0 < l0.length
      · have hc : decide (0 < (l0.length : Int)) = true := by simpa using h0
        have hc' : decide (0 < l0.length) = true := by simpa using h0
        have hlt2 : i % l0.length < l0.length := Nat.mod_lt _ h0
        obtain ⟨ad, rfl, hcell⟩ := Kd.at_int HR.out ((i % l0.length : Nat) : Int) (by omega) (by omega)
        replace hcell := (hb.cell (World.block_lt_of_cell? w _ hcell)).trans hcell
        rw [Int.toNat_natCast] at hcell
        have hv := HW.out _ (rd_mem hlt2)
        obtain ⟨v, hev⟩ : ∃ v, rd l0 ((i % l0.length : Nat) : Int) = v := ⟨_, rfl⟩
        rw [hev] at hcell hv
        clear hev
        have hs := hh.cell i
        have hf := hh.frozen i
        have ho2 : (ints out)[i]? = some (.int .i64 (rd out i)) := by simp [ints, rd, ho, hlt]
        rw [ho2] at hs
        clear ho2
        go_wp2
        go_roundg gk
        case measure => omega
        case rel => exact ⟨i + 1, out.set i (v % 27), by go_num, by omega, ⟨by simpa using ho, mem_set hx (by omega)⟩, by rw [ints_set]; exact hh.set i _, hb.setCell (Nat.le_refl _) _⟩
      · have hc : decide (0 < (l0.length : Int)) = false := by simpa using h0
        have hc' : decide (0 < l0.length) = false := by simpa using h0
        go_wp2
        go_roundg gk
        case measure => omega
        case rel => exact ⟨i + 1, out, by go_num, by omega, ⟨ho, hx⟩, hh, hb⟩
    · go_wp2
      go_ret
      obtain rfl : i = 21 := by omega
      exact ⟨out, rfl, ⟨ho, hx⟩, hh, hb⟩

/-- A row of 21 numbers that is read at A. -/
def Row (w : World) (A : Option Addr) (xs : List Int) : Prop := xs.length = 21 ∧ Kd.C (Kd.int .i64) w A 21 xs

theorem Row.below {w w1 : World} {A : Option Addr} {xs : List Int} (h : Row w A xs) (hb : Below w.heap.size w w1) : Row w1 A xs := ⟨h.1, Kd.C_below h.2 hb⟩
theorem Row.drewN {w : World} {A : Option Addr} {xs : List Int} (h : Row w A xs) (n : Nat) : Row (w.drewN n) A xs := ⟨h.1, Kd.C_drewN h.2 n⟩
theorem Row.alloc {w : World} {A : Option Addr} {xs : List Int} (h : Row w A xs) (o : Obj) : Row (w.alloc o) A xs := ⟨h.1, Kd.C_alloc h.2 o⟩

theorem Row.of_R {w : World} {base : Nat} {ok : Nat → Prop} {v : Value} {xs : List Int} (hl : xs.length = 21) (h : Kd.R (Kd.int .i64) 3 w base ok v xs) : ∃ A c, v = .slice A 21 c ∧ 21 ≤ c ∧ Row w A xs := by
  obtain ⟨A, c, hv, hc, hr⟩ := Kd.R_reads h
  rw [hl] at hv hc hr
  exact ⟨A, c, hv, hc, hl, hr⟩

theorem Row.of_has {w : World} {b E : Nat} {xs : List Int} (hl : xs.length = 21) (h : Has w b E (ints xs)) : Row w (some ⟨b, 0, none⟩) xs := by
  have := C_of_has (xs := xs) (rest := []) (k := .i64) (by simpa [ints] using h) (by omega)
  rw [hl] at this
  exact ⟨hl, this⟩

theorem Row.at {w : World} {A : Option Addr} {xs : List Int} (h : Row w A xs) : ∃ ad, A = some ad ∧ ∀ i : Nat, i < 21 → w.cell? (ad.add i) = some (.int .i64 (rd xs i)) := by
  obtain ⟨ad, hA, _⟩ := Kd.at_int h.2 0 (by omega) (by omega)
  refine ⟨ad, hA, fun i h1 => ?_⟩
  obtain ⟨ad', hA', hc⟩ := Kd.at_int h.2 (i : Int) (by omega) (by omega)
  rw [hA] at hA'
  obtain rfl := Option.some.inj hA'
  rw [Int.toNat_natCast] at hc
  exact hc

theorem lives_c (w : World) : Calls Try.prog 6 #[] w fun e w' => e = .returned (.bool true) ∧ Below w.heap.size w w' :=
  sidebandlaw11_lives.calls 100 true w (lives_true 100 (by omega))

def stepsL (l : List Int) (q x : Int) : List Int := (List.range 21).map (stepOf l q x)
theorem stepsL_len (l : List Int) (q x : Int) : (stepsL l q x).length = 21 := by simp [stepsL]
theorem stepsL_at (l : List Int) (q x : Int) (b : Nat) (hb : b < 21) : rd (stepsL l q x) (b : Int) = stepOf l q x b := by
  simp [rd, stepsL, hb]

def StepsPost (xs : List Int) (w : World) (e : Ending) (w' : World) : Prop := ∃ A c, e = .returned (.tuple #[.slice A 21 c, .int .i64 0]) ∧ 21 ≤ c ∧ Row w' A xs ∧ Below w.heap.size w w'

theorem steps_c (A0 : Option Addr) (c0 : Nat) (l : List Int) (q x : Int) (w : World) (hr0 : Row w A0 l) (hc0 : 21 ≤ c0) (ok : Ceils l) (hq : 1 ≤ q ∧ q ≤ 10) (hx : 0 ≤ x ∧ x ≤ 31) :
    Calls Try.prog 8 #[.slice A0 21 c0, .int .i64 q, .int .i64 x] w (StepsPost (stepsL l q x) w) := by
  have h := mask_Steps.calls 100 A0 c0 l q x (stepsL l q x) 0 w (by rw [hr0.1]; exact hr0.2) (by rw [hr0.1]; exact hc0) (steps_f l q x hr0.1 ok.2 hq hx 100 (by omega))
  rw [hr0.1] at h
  refine h.mono ?_
  rintro e w' ⟨v, rfl, hR, hb⟩
  obtain ⟨A, c, rfl, hc, hrow⟩ := Row.of_R (stepsL_len l q x) hR
  exact ⟨A, c, rfl, hc, hrow, hb⟩

theorem told_c (a b : Int) (w : World) : Calls Try.prog 9 #[.int .i64 a, .int .i64 b] w fun e w' => e = .returned (.bool (decide (b < a))) ∧ w = w' := by
  go_enter Try.func9, Try.ntmps9
  go_wp2
  go_ret
  exact ⟨rfl, rfl⟩

end Go.Proofs.Ytnlhcgofkfcljaa.Own
