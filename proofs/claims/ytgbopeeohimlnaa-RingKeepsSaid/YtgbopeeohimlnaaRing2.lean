/-
  The ring's Join, At and Push by their contracts.
-/
import Derived.Test.YtgbopeeohimlnaaRing
set_option linter.unusedVariables false
set_option linter.unusedSimpArgs false
namespace Go.Proofs.Ytgbopeeohimlnaa.Own
open Go.RowKit Go.Proofs.YtgbopeeohimlnaaW.PrintWords Go.Proofs.YtgbopeeohimlnaaW.PrintMore Go.Proofs.Ytgbopeeohimlnaa.H

theorem snoc_induction {α : Type} {P : List α → Prop} (h0 : P []) (h1 : ∀ xs x, P xs → P (xs ++ [x])) : ∀ xs, P xs := by
  have : ∀ (n : Nat) (xs : List α), xs.length = n → P xs := by
    intro n
    induction n with
    | zero => intro xs h; rw [List.eq_nil_of_length_eq_zero h]; exact h0
    | succ n ih =>
      intro xs h
      have hne : xs ≠ [] := by intro e; rw [e] at h; simp at h
      have := h1 xs.dropLast (xs.getLast hne) (ih _ (by simp [h]))
      rwa [List.dropLast_concat_getLast] at this
  exact fun xs => this _ xs rfl
theorem lw_bounds (ps : List Pk) : -1 ≤ lw ps ∧ lw ps < ps.length := by
  induction ps using snoc_induction with
  | h0 => simp [lw, lwFrom]
  | h1 ps p ih =>
    rw [lw_snoc]
    simp only [List.length_append, List.length_cons, List.length_nil]
    split <;> omega

def JoinPost (w : World) (ps : List Pk) (n : Nat) (e : Ending) (w' : World) : Prop :=
  e = .returned (.tuple #[.int .i64 (if lw ps < ((ps.length - n : Nat) : Int) then 0 else lw ps), .bool (decide (¬ lw ps < ((ps.length - n : Nat) : Int)))]) ∧ Drawn0 w w'

set_option maxHeartbeats 1000000 in
theorem join_c {w : World} {B p g n : Nat} {ps : List Pk} {own : Nat → Prop} (h : Ring w B p g n ps own) :
    Calls Try.prog 11 #[.pointer (some ⟨p, 0, none⟩)] w (JoinPost w ps n) := by
  obtain ⟨c0, c1, c2, cf⟩ := h.hr.three
  have HR := Aside0.mk h
  clear h
  by_cases hlt : lw ps < ((ps.length - n : Nat) : Int)
  · have d : decide (lw ps < ((ps.length - n : Nat) : Int)) = true := by simpa using hlt
    go_enter Try.func11, Try.ntmps11
    go_wp2_with fail
    refine (ends_c HR.out).mono ?_
    rintro e w' ⟨rfl, ⟨m, rfl⟩⟩
    go_wp2_with fail
    go_ret2
    exact ⟨by rw [if_pos (by omega)]; simp; omega, Drawn0.mk ⟨_, rfl⟩⟩
  · have d : decide (lw ps < ((ps.length - n : Nat) : Int)) = false := by simpa using hlt
    go_enter Try.func11, Try.ntmps11
    go_wp2_with fail
    refine (ends_c HR.out).mono ?_
    rintro e w' ⟨rfl, ⟨m, rfl⟩⟩
    go_wp2_with fail
    go_ret2
    exact ⟨by rw [if_neg (by omega)]; simp; omega, Drawn0.mk ⟨_, rfl⟩⟩
theorem join_nil (w : World) : Calls Try.prog 11 #[.pointer none] w fun e w' => e = .returned (.tuple #[.int .i64 0, .bool false]) ∧ w = w' := by
  go_enter Try.func11, Try.ntmps11
  go_wp2_with fail
  refine (ends_nil _).mono ?_
  rintro e w' ⟨rfl, rfl⟩
  go_wp2_with fail
  go_ret2
  exact ⟨rfl, rfl⟩

theorem cell_below {w w' : World} (hb : Below w.heap.size w w') {a : Addr} {v : Value} (h : w.cell? a = some v) : w'.cell? a = some v := (hb.cell (World.block_lt_of_cell? w _ h)).trans h
theorem below_undrew {B : Nat} {w w' : World} (h : Below B w.drew w') : Below B w w' := ⟨h.os, h.tape, h.output, h.size, h.block⟩
theorem far4 {w : World} {b : Nat} {a : Addr} {v : Value} (hne : a.block ≠ b) (h : w.cell? a = some v) (u0 u1 u2 u3 : Value) :
    ((((w.setCell ⟨b, 0, none⟩ u0).setCell ⟨b, 1, none⟩ u1).setCell ⟨b, 2, none⟩ u2).setCell ⟨b, 3, none⟩ u3).cell? a = some v := by
  have one : ∀ (w : World) (i : Nat) (u : Value), w.cell? a = some v → (w.setCell ⟨b, i, none⟩ u).cell? a = some v := fun w i u h => (World.cell?_of_block (Below.heap_setCell w ⟨b, i, none⟩ u a.block hne)).trans h
  exact one _ _ _ (one _ _ _ (one _ _ _ (one _ _ _ h)))
def zeroPk : Value := .agg #[.int .u32 0, .int .u32 0, .bool false, .slice none 0 0]
def AtNo (w : World) (e : Ending) (w' : World) : Prop := e = .returned (.tuple #[zeroPk, .bool false]) ∧ Below w.heap.size w w'

set_option maxHeartbeats 1000000 in
theorem at_nil (i : Int) (w : World) : Calls Try.prog 8 #[.pointer none, .int .i64 i] w (AtNo w) := by
  by_cases hlt : i < 0
  · have d : decide (i < 0) = true := by simpa using hlt
    go_enter Try.func8, Try.ntmps8
    go_wp2_with fail
    refine (ends_nil _).mono ?_
    rintro e w' ⟨rfl, rfl⟩
    go_wp2_with fail
    refine bodyPost_ret (v := .tuple #[zeroPk, .bool false]) (by simp [results, Try.results8, go_sem, zeroPk]) rfl ⟨rfl, ?_⟩
    exact (Below.refl _ w).alloc (Nat.le_refl _) _
  · have d : decide (i < 0) = false := by simpa using hlt
    have d2 : decide (0 ≤ i) = true := by simp; omega
    go_enter Try.func8, Try.ntmps8
    go_wp2_with fail
    refine (ends_nil _).mono ?_
    rintro e w' ⟨rfl, rfl⟩
    go_wp2_with fail
    refine bodyPost_ret (v := .tuple #[zeroPk, .bool false]) (by simp [results, Try.results8, go_sem, zeroPk]) rfl ⟨rfl, ?_⟩
    exact (Below.refl _ w).alloc (Nat.le_refl _) _

set_option maxHeartbeats 1000000 in
theorem at_no {w : World} {B p g n : Nat} {ps : List Pk} {own : Nat → Prop} (h : Ring w B p g n ps own) (i : Int) (hi : i < ((ps.length - n : Nat) : Int) ∨ (ps.length : Int) ≤ i) :
    Calls Try.prog 8 #[.pointer (some ⟨p, 0, none⟩), .int .i64 i] w (AtNo w) := by
  have HR := Aside0.mk h
  clear h
  have hi' : decide (i < ((ps.length - n : Nat) : Int)) = true ∨ (decide (i < ((ps.length - n : Nat) : Int)) = false ∧ decide ((ps.length : Int) ≤ i) = true) := by
    simp only [decide_eq_true_eq, decide_eq_false_iff_not]; omega
  clear hi
  rcases hi' with d | ⟨d, d2⟩
  all_goals
    go_enter Try.func8, Try.ntmps8
    go_wp2_with fail
    refine (ends_c (HR.out.below ((Below.refl _ w).alloc (Nat.le_refl _) _))).mono ?_
    rintro e w' ⟨rfl, ⟨m, rfl⟩⟩
    go_wp2_with fail
    refine bodyPost_ret (v := .tuple #[zeroPk, .bool false]) (by simp [results, Try.results8, go_sem, zeroPk]) rfl ⟨rfl, ?_⟩
    exact ((((pw_below_drewN ((Below.refl _ w).alloc (Nat.le_refl _) _) m).setCell (Nat.le_refl _) _).setCell (Nat.le_refl _) _).setCell (Nat.le_refl _) _).setCell (Nat.le_refl _) _

def AtYes (w : World) (pk : Pk) (e : Ending) (w' : World) : Prop := ∃ A c, e = .returned (.tuple #[.agg #[.int .u32 pk.e, .int .u32 pk.num, .bool pk.wh, .slice A pk.bs.length c], .bool true]) ∧ QRow w' w.heap.size 5 1 (.slice A pk.bs.length c) pk.bs.length (u8s pk.bs) ∧ Below w.heap.size w w'

set_option maxHeartbeats 4000000 in
theorem at_yes {w : World} {B p g n : Nat} {ps : List Pk} {own : Nat → Prop} (h : Ring w B p g n ps own) (i : Nat) (pk : Pk) (hpk : ps[i]? = some pk) (hi : ps.length ≤ i + n) (hpl : pk.bs.length ≤ 1000) :
    Calls Try.prog 8 #[.pointer (some ⟨p, 0, none⟩), .int .i64 (i : Int)] w (AtYes w pk) := by
  have hil : i < ps.length := (List.getElem?_eq_some_iff.1 hpk).1
  have HR := Aside0.mk h
  have d1 : decide ((i : Int) < ((ps.length - n : Nat) : Int)) = false := by simp; omega
  have d2 : decide ((ps.length : Int) ≤ (i : Int)) = false := by simp; omega
  have hn := h.hn
  have hlen := h.hlen
  clear h
  go_enter Try.func8, Try.ntmps8
  go_wp2_with fail
  refine (ends_c (HR.out.below ((Below.refl _ w).alloc (Nat.le_refl _) _))).mono ?_
  rintro e w1 ⟨rfl, hd⟩
  have hb1 : Below w.heap.size w w1 := ((Below.refl _ w).alloc (Nat.le_refl _) _).trans (hd.below.mono (by simp))
  have hres := (Has.new w 32 [.int .u32 0, .int .u32 0, .bool false, .slice none 0 0]).below hd.below (by simp)
  have hr1 := HR.out.below hb1
  obtain ⟨c0, c1, c2, cf⟩ := hr1.hr.three
  obtain ⟨cs, hcs, hcl, hslots⟩ := hr1.hc
  obtain ⟨pv, hs, hq, _⟩ := hslots i pk hpk hi
  obtain ⟨A, c, rfl, hc⟩ := q_slice hq
  have hbytes : Bytes w1 A c pk.bs := ⟨hc, C_of_q hq⟩
  obtain ⟨s0, s1, s2, s3⟩ := hs
  have hmod : i % n < n := Nat.mod_lt _ (by omega)
  have hrem : Int.tmod (i : Int) (n : Int) = ((i % n : Nat) : Int) := by rw [Int.tmod_eq_emod_of_nonneg (by omega)]; omega
  generalize i % n = j at s0 s1 s2 s3 hmod hrem
  have x0 := (hcs.cell (j * 4)).trans s0
  have x1 := (hcs.cell (j * 4 + 1)).trans s1
  have x2 := (hcs.cell (j * 4 + 2)).trans s2
  have x3 := (hcs.cell (j * 4 + 3)).trans s3
  have hn0 : ((n : Int) == 0) = false := by simp; omega
  have hn1 : (n == 0) = false := by simp; omega
  have hn2 : ¬ n = 0 := by omega
  have hn3 : decide (n = 0) = false := by simp; omega
  have hwj : IntKind.i64.wrap (j : Int) = (j : Int) := IntWalk.i64_in _ (by omega)
  have hj0 : (0 : Int) ≤ (j : Int) := by omega
  have hj1 : (j : Int) < (n : Int) := by omega
  have HRES := Aside0.mk hres
  have hpne : p ≠ w.heap.size := by have := HR.out.hr.lt; omega
  have hgne : g ≠ w.heap.size := by obtain ⟨cs', hcs', _⟩ := HR.out.hc; have := hcs'.lt; omega
  have HB := Aside0.mk hb1
  have HY := Aside0.mk hbytes
  clear hd hr1 hslots hcs hcl s0 s1 s2 s3 hq hres hb1 hbytes cf c1 c2 hmod
  go_wp2_with fail
  go_region_held3 (fun w' => w'.cell? ⟨p, 0, none⟩ = some (.slice (some ⟨g, 0, none⟩) n n) ∧ w'.cell? ⟨g, j * 4, none⟩ = some (.int .u32 pk.e) ∧ w'.cell? ⟨g, j * 4 + 1, none⟩ = some (.int .u32 pk.num) ∧ w'.cell? ⟨g, j * 4 + 2, none⟩ = some (.bool pk.wh) ∧ w'.cell? ⟨g, j * 4 + 3, none⟩ = some (.slice A pk.bs.length c)) (first | go_keep | (with_reducible exact ⟨cell_below hb3 c0, cell_below hb3 x0, cell_below hb3 x1, cell_below hb3 x2, cell_below hb3 x3⟩) | (with_reducible exact ⟨far4 hpne (cell_below hb3 c0) _ _ _ _, far4 hgne (cell_below hb3 x0) _ _ _ _, far4 hgne (cell_below hb3 x1) _ _ _ _, far4 hgne (cell_below hb3 x2) _ _ _ _, far4 hgne (cell_below hb3 x3) _ _ _ _⟩))
    (first | (go_at_call 12; refine (copied_c pk A c _ (HY.out.below ((Below.refl _ _).drew)) (by omega)).mono ?_; rintro e w2 ⟨A2, c2, rfl, hq2, hb2⟩; have hb3 := below_undrew hb2; obtain ⟨q0, q1, q2, q3, qf⟩ := (HRES.out.below hb3 HRES.out.lt).four))
  go_wp2_with fail
  refine bodyPost_ret (v := .tuple #[.agg #[.int .u32 pk.e, .int .u32 pk.num, .bool pk.wh, .slice A2 pk.bs.length c2], .bool true]) (by simp [results, Try.results8, go_sem, *]) rfl ⟨A2, c2, rfl, ?_, ?_⟩
  · have hb4 := HB.out.size
    have hw := HRES.out.lt
    have hq3 := q_lower hq2 hb4
    have hk : ∀ k, (Value.slice A2 pk.bs.length c2).ownBlock = some k → k ≠ w.heap.size := fun k hk => by
      have := (q_typed hq2 k hk).1
      simp at this; omega
    exact q_far (q_far (q_far (q_far hq3 hk _) hk _) hk _) hk _
  · exact ((((HB.out.trans (hb3.mono HB.out.size)).setCell (Nat.le_refl _) _).setCell (Nat.le_refl _) _).setCell (Nat.le_refl _) _).setCell (Nat.le_refl _) _
end Go.Proofs.Ytgbopeeohimlnaa.Own
