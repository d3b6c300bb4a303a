/-
  The ring's Push by its contract.
-/
import Derived.Test.YtgbopeeohimlnaaRing2
set_option linter.unusedVariables false
set_option linter.unusedSimpArgs false
namespace Go.Proofs.Ytgbopeeohimlnaa.Own
open Go.RowKit Go.Proofs.YtgbopeeohimlnaaW.PrintWords Go.Proofs.YtgbopeeohimlnaaW.PrintMore Go.Proofs.Ytgbopeeohimlnaa.H

theorem push_nil (pk : Pk) (A : Option Addr) (c : Nat) (w : World) : Calls Try.prog 7 #[.pointer none, .agg #[.int .u32 pk.e, .int .u32 pk.num, .bool pk.wh, .slice A pk.bs.length c]] w fun e w' => e = .returned (.int .i64 0) ∧ Below w.heap.size w w' := by
  go_enter Try.func7, Try.ntmps7
  go_wp2_with fail
  go_ret
  exact ⟨rfl, (Below.refl _ w).alloc (Nat.le_refl _) _⟩

/-- The cells with slot j written. -/
def put4 (cs : List Value) (j : Nat) (x0 x1 x2 x3 : Value) : List Value := (((cs.set (j * 4) x0).set (j * 4 + 1) x1).set (j * 4 + 2) x2).set (j * 4 + 3) x3
theorem put4_length (cs : List Value) (j : Nat) (x0 x1 x2 x3 : Value) : (put4 cs j x0 x1 x2 x3).length = cs.length := by simp [put4]
theorem put4_slot {cs : List Value} {n j : Nat} (hl : cs.length = n * 4) (hj : j < n) (pk : Pk) (pv : Value) : Slot (put4 cs j (.int .u32 pk.e) (.int .u32 pk.num) (.bool pk.wh) pv) j pk pv := by
  have h0 : j * 4 < cs.length := by omega
  have h1 : j * 4 + 1 < cs.length := by omega
  have h2 : j * 4 + 2 < cs.length := by omega
  have h3 : j * 4 + 3 < cs.length := by omega
  refine ⟨?_, ?_, ?_, ?_⟩ <;> simp [put4, h0, h1, h2, h3]
theorem put4_far {cs : List Value} {j k : Nat} (hne : k ≠ j) {x0 x1 x2 x3 : Value} {pk : Pk} {pv : Value} (h : Slot cs k pk pv) : Slot (put4 cs j x0 x1 x2 x3) k pk pv := by
  obtain ⟨h0, h1, h2, h3⟩ := h
  refine ⟨?_, ?_, ?_, ?_⟩
  · rw [← h0]; simp only [put4]; rw [List.getElem?_set_ne (by omega), List.getElem?_set_ne (by omega), List.getElem?_set_ne (by omega), List.getElem?_set_ne (by omega)]
  · rw [← h1]; simp only [put4]; rw [List.getElem?_set_ne (by omega), List.getElem?_set_ne (by omega), List.getElem?_set_ne (by omega), List.getElem?_set_ne (by omega)]
  · rw [← h2]; simp only [put4]; rw [List.getElem?_set_ne (by omega), List.getElem?_set_ne (by omega), List.getElem?_set_ne (by omega), List.getElem?_set_ne (by omega)]
  · rw [← h3]; simp only [put4]; rw [List.getElem?_set_ne (by omega), List.getElem?_set_ne (by omega), List.getElem?_set_ne (by omega), List.getElem?_set_ne (by omega)]

theorem mod_ne {k n m : Nat} (hn : 0 < n) (h1 : k < m) (h2 : m < k + n) : k % n ≠ m % n := by
  intro e
  have hd : (m - k) % n = 0 := by
    have := Nat.sub_mod_eq_zero_of_mod_eq e.symm
    exact this
  have : m - k < n := by omega
  rw [Nat.mod_eq_of_lt this] at hd
  omega

/-- What a push makes of a ring's memory, step by step: the packet is in its slot, then the counts are told. -/
theorem Ring.pushed {w w1 : World} {B p g n : Nat} {ps : List Pk} {own : Nat → Prop} (h : Ring w B p g n ps own) (hb : Below w.heap.size w w1) (pk : Pk) (pv : Value) (hq : QRow w1 w.heap.size 5 1 pv pk.bs.length (u8s pk.bs)) (hB : B ≤ w.heap.size) (hlen : ps.length + 1 ≤ 1000000)
    {w2 : World} (hbut : But (fun k => k = p ∨ k = g) w1 w2) (hp : Has w2 p 44 [.slice (some ⟨g, 0, none⟩) n n, .int .i64 ((ps.length : Int) + 1), .int .i64 (if pk.wh then (ps.length : Int) else lw ps)])
    (hc : ∀ cs, Has w1 g 32 cs → cs.length = n * 4 → Has w2 g 32 (put4 cs (ps.length % n) (.int .u32 pk.e) (.int .u32 pk.num) (.bool pk.wh) pv)) :
    Ring w2 B p g n (ps ++ [pk]) (fun b => own b ∨ (w.heap.size ≤ b ∧ b < w2.heap.size)) := by
  have h1 := h.below hb
  obtain ⟨cs, hcs, hl, hs⟩ := h1.hc
  have hn := h.hn
  have byte : ∀ v m xs, QRow w1 B 5 1 v m xs → QRow w2 B 5 1 v m xs := fun v m xs hv => q_but hv hbut fun k hk => by
    obtain ⟨_, cells, hx⟩ := q_typed hv k hk
    rintro (rfl | rfl)
    · have := h1.hr.out; rw [hx] at this; simp at this
    · have := hcs.out; rw [hx] at this; simp at this
  refine ⟨hn, h.hp, h.hg, by simpa using hlen, by rw [lw_snoc]; simpa using hp, _, hc cs hcs hl, by rw [put4_length]; exact hl, fun k q hk hkn => ?_⟩
  simp only [List.length_append, List.length_cons, List.length_nil, Nat.zero_add] at hkn
  by_cases e : k = ps.length
  · subst e
    obtain rfl : pk = q := by simpa using hk
    exact ⟨pv, put4_slot hl (Nat.mod_lt _ (by omega)) pk pv, byte _ _ _ (q_lower hq hB), fun b hb => .inr ⟨(q_typed hq b hb).1, Nat.lt_of_lt_of_le (q_lt hq b hb) hbut.size⟩⟩
  · have hkl : k < ps.length := by
      have := (List.getElem?_eq_some_iff.1 hk).1
      simp at this; omega
    rw [List.getElem?_append_left hkl] at hk
    obtain ⟨qv, h3, h4, h5⟩ := hs k q hk (by omega)
    exact ⟨qv, put4_far (mod_ne (by omega) hkl (by omega)) h3, byte _ _ _ h4, fun b hb => .inl (h5 b hb)⟩

theorem far4' {w : World} {q0 q1 q2 q3 a : Addr} {v : Value} (h0 : a.block ≠ q0.block) (h1 : a.block ≠ q1.block) (h2 : a.block ≠ q2.block) (h3 : a.block ≠ q3.block) (h : w.cell? a = some v) (u0 u1 u2 u3 : Value) :
    ((((w.setCell q0 u0).setCell q1 u1).setCell q2 u2).setCell q3 u3).cell? a = some v := by
  have one : ∀ (w : World) (q : Addr) (u : Value), a.block ≠ q.block → w.cell? a = some v → (w.setCell q u).cell? a = some v := fun w q u hne h => (World.cell?_of_block (Below.heap_setCell w q u a.block hne)).trans h
  exact one _ _ _ h3 (one _ _ _ h2 (one _ _ _ h1 (one _ _ _ h0 h)))
theorem Has.at4 {w : World} {g n : Nat} {cs : List Value} (h : Has w g 32 cs) (hl : cs.length = n * 4) {j : Nat} (hj : j < n) (i : Nat) (hi : i < 4) : ∃ v, w.cell? ⟨g, j * 4 + i, none⟩ = some v := by
  rw [h.cell]
  exact ⟨cs[j * 4 + i]'(by omega), by simp [show j * 4 + i < cs.length by omega]⟩

def PushPost (w : World) (B p g n : Nat) (ps : List Pk) (own : Nat → Prop) (pk : Pk) (e : Ending) (w' : World) : Prop :=
  e = .returned (.int .i64 (ps.length : Int)) ∧ Ring w' B p g n (ps ++ [pk]) (fun b => own b ∨ (w.heap.size ≤ b ∧ b < w'.heap.size)) ∧ But (fun k => k = p ∨ k = g) w w'

theorem push_any {w w2 w3 w4 : World} {B p g n : Nat} {ps : List Pk} {own : Nat → Prop} {pk : Pk} {pv : Value} (h : Ring w B p g n ps own) (hb : Below w.heap.size w w2) (hq : QRow w2 w.heap.size 5 1 pv pk.bs.length (u8s pk.bs)) (hB : B ≤ w.heap.size) (hlen : ps.length + 1 ≤ 1000000)
    (hput : ∀ cs, Has w2 g 32 cs → cs.length = n * 4 → Has w3 g 32 (put4 cs (ps.length % n) (.int .u32 pk.e) (.int .u32 pk.num) (.bool pk.wh) pv)) (hbut : But (fun k => k = p ∨ k = g) w2 w3)
    (h4 : But (fun k => k = p) w3 w4) (hp : Has w4 p 44 [.slice (some ⟨g, 0, none⟩) n n, .int .i64 ((ps.length : Int) + 1), .int .i64 (if pk.wh then (ps.length : Int) else lw ps)]) :
    Ring w4 B p g n (ps ++ [pk]) (fun b => own b ∨ (w.heap.size ≤ b ∧ b < w4.heap.size)) ∧ But (fun k => k = p ∨ k = g) w w4 := by
  have h24 : But (fun k => k = p ∨ k = g) w2 w4 := hbut.trans (h4.mono fun k _ hk => .inl hk)
  exact ⟨h.pushed hb pk pv hq hB hlen h24 hp (fun cs hcs hl => (hput cs hcs hl).but h4 (Ne.symm h.ne)), (But.of_below hb).trans h24⟩
theorem push_end {w w2 w3 : World} {B p g n : Nat} {ps : List Pk} {own : Nat → Prop} {pk : Pk} {pv : Value} (h : Ring w B p g n ps own) (hb : Below w.heap.size w w2) (hq : QRow w2 w.heap.size 5 1 pv pk.bs.length (u8s pk.bs)) (hB : B ≤ w.heap.size) (hlen : ps.length + 1 ≤ 1000000) (hw : pk.wh = true)
    (hp3 : Has w3 p 44 [.slice (some ⟨g, 0, none⟩) n n, .int .i64 (ps.length : Int), .int .i64 (lw ps)])
    (hput : ∀ cs, Has w2 g 32 cs → cs.length = n * 4 → Has w3 g 32 (put4 cs (ps.length % n) (.int .u32 pk.e) (.int .u32 pk.num) (.bool pk.wh) pv)) (hbut : But (fun k => k = p ∨ k = g) w2 w3) :
    Ring ((w3.setCell ⟨p, 2, none⟩ (.int .i64 (ps.length : Int))).setCell ⟨p, 1, none⟩ (.int .i64 ((ps.length : Int) + 1))) B p g n (ps ++ [pk]) (fun b => own b ∨ (w.heap.size ≤ b ∧ b < ((w3.setCell ⟨p, 2, none⟩ (.int .i64 (ps.length : Int))).setCell ⟨p, 1, none⟩ (.int .i64 ((ps.length : Int) + 1))).heap.size)) ∧
      But (fun k => k = p ∨ k = g) w ((w3.setCell ⟨p, 2, none⟩ (.int .i64 (ps.length : Int))).setCell ⟨p, 1, none⟩ (.int .i64 ((ps.length : Int) + 1))) :=
  push_any h hb hq hB hlen hput hbut (((But.refl (fun k => k = p) w3).set (p := ⟨p, 2, none⟩) (.inr rfl) _).set (p := ⟨p, 1, none⟩) (.inr rfl) _) (by rw [if_pos hw]; exact (hp3.set 2 _).set 1 _)
theorem push_end' {w w2 w3 : World} {B p g n : Nat} {ps : List Pk} {own : Nat → Prop} {pk : Pk} {pv : Value} (h : Ring w B p g n ps own) (hb : Below w.heap.size w w2) (hq : QRow w2 w.heap.size 5 1 pv pk.bs.length (u8s pk.bs)) (hB : B ≤ w.heap.size) (hlen : ps.length + 1 ≤ 1000000) (hw : pk.wh = false)
    (hp3 : Has w3 p 44 [.slice (some ⟨g, 0, none⟩) n n, .int .i64 (ps.length : Int), .int .i64 (lw ps)])
    (hput : ∀ cs, Has w2 g 32 cs → cs.length = n * 4 → Has w3 g 32 (put4 cs (ps.length % n) (.int .u32 pk.e) (.int .u32 pk.num) (.bool pk.wh) pv)) (hbut : But (fun k => k = p ∨ k = g) w2 w3) :
    Ring (w3.setCell ⟨p, 1, none⟩ (.int .i64 ((ps.length : Int) + 1))) B p g n (ps ++ [pk]) (fun b => own b ∨ (w.heap.size ≤ b ∧ b < (w3.setCell ⟨p, 1, none⟩ (.int .i64 ((ps.length : Int) + 1))).heap.size)) ∧
      But (fun k => k = p ∨ k = g) w (w3.setCell ⟨p, 1, none⟩ (.int .i64 ((ps.length : Int) + 1))) :=
  push_any h hb hq hB hlen hput hbut ((But.refl (fun k => k = p) w3).set (p := ⟨p, 1, none⟩) (.inr rfl) _) (by rw [if_neg (by simp [hw])]; exact hp3.set 1 _)
set_option maxHeartbeats 8000000 in
theorem push_c {w : World} {B p g n : Nat} {ps : List Pk} {own : Nat → Prop} (h : Ring w B p g n ps own) (pk : Pk) (A : Option Addr) (c : Nat) (hy : Bytes w A c pk.bs) (hpl : pk.bs.length ≤ 1000) (hB : B ≤ w.heap.size) (hlen : ps.length + 1 ≤ 1000000) :
    Calls Try.prog 7 #[.pointer (some ⟨p, 0, none⟩), .agg #[.int .u32 pk.e, .int .u32 pk.num, .bool pk.wh, .slice A pk.bs.length c]] w (PushPost w B p g n ps own pk) := by
  have HR := Aside0.mk h
  have HY := Aside0.mk hy
  have hn := h.hn
  have hpg := h.ne
  obtain ⟨c0, c1, c2, cf⟩ := h.hr.three
  obtain ⟨cs, hcs, hcl, hslots⟩ := h.hc
  have hp := h.hr
  have hplt := hp.lt
  have hglt := hcs.lt
  have HC := Aside0.mk hcs
  have HCL := Aside0.mk hcl
  have HP := Aside0.mk hp
  have hj : ps.length % n < n := Nat.mod_lt _ (by omega)
  have hrem : Int.tmod (ps.length : Int) (n : Int) = ((ps.length % n : Nat) : Int) := by rw [Int.tmod_eq_emod_of_nonneg (by omega)]; omega
  obtain ⟨j, hjj⟩ : ∃ j, ps.length % n = j := ⟨_, rfl⟩
  rw [hjj] at hj hrem
  have HJ := Aside0.mk hjj
  clear hslots h hcl hcs hp hy hjj
  have hn0 : ((n : Int) == 0) = false := by simp; omega
  have hn1 : (n == 0) = false := by simp; omega
  have hn2 : ¬ n = 0 := by omega
  have hn3 : decide (n = 0) = false := by simp; omega
  have hwj : IntKind.i64.wrap (j : Int) = (j : Int) := IntWalk.i64_in _ (by omega)
  have hj0 : (0 : Int) ≤ (j : Int) := by omega
  have hj1 : (j : Int) < (n : Int) := by omega
  have hpne : p ≠ w.heap.size := by omega
  have hgne : g ≠ w.heap.size := by omega
  have hgn : w.heap.size ≠ g := Ne.symm hgne
  go_enter Try.func7, Try.ntmps7
  go_wp2_with fail
  -- the parameter is boxed: the world is w.alloc ..
  obtain ⟨w1, hw1⟩ : ∃ w1, w.alloc (.cells #[.int .u32 pk.e, .int .u32 pk.num, .bool pk.wh, .slice A pk.bs.length c] 32) = w1 := ⟨_, rfl⟩
  rw [hw1]
  have hb1 : Below w.heap.size w w1 := by rw [← hw1]; exact (Below.refl _ w).alloc (Nat.le_refl _) _
  have hbox : Has w1 w.heap.size 32 [.int .u32 pk.e, .int .u32 pk.num, .bool pk.wh, .slice A pk.bs.length c] := by rw [← hw1]; exact Has.new w 32 [_, _, _, _]
  clear hw1 c0 c1 c2 cf
  have HBX := Aside0.mk hbox
  have HB1 := Aside0.mk hb1
  obtain ⟨b0, b1, b2, b3, bf⟩ := hbox.four
  obtain ⟨c0, c1, c2, cf⟩ := (HP.out.below hb1 hplt).three
  clear hbox hb1
  go_region_held3 (fun w' => w'.cell? ⟨p, 0, none⟩ = some (.slice (some ⟨g, 0, none⟩) n n) ∧ w'.cell? ⟨p, 1, none⟩ = some (.int .i64 (ps.length : Int)) ∧ w'.cell? ⟨w.heap.size, 0, none⟩ = some (.int .u32 pk.e) ∧ w'.cell? ⟨w.heap.size, 1, none⟩ = some (.int .u32 pk.num) ∧ w'.cell? ⟨w.heap.size, 2, none⟩ = some (.bool pk.wh) ∧ w'.cell? ⟨w.heap.size, 3, none⟩ = some (.slice A pk.bs.length c))
    (first | (with_reducible exact ⟨cell_below hb3 c0, cell_below hb3 c1, cell_below hb3 b0, cell_below hb3 b1, cell_below hb3 b2, cell_below hb3 b3⟩) | (with_reducible exact ⟨far4' hpg hpg hpg hpg (cell_below hb3 c0) _ _ _ _, far4' hpg hpg hpg hpg (cell_below hb3 c1) _ _ _ _, far4' hgn hgn hgn hgn (cell_below hb3 b0) _ _ _ _, far4' hgn hgn hgn hgn (cell_below hb3 b1) _ _ _ _, far4' hgn hgn hgn hgn (cell_below hb3 b2) _ _ _ _, far4' hgn hgn hgn hgn (cell_below hb3 b3) _ _ _ _⟩) | go_keep)
    (first | (go_at_call 12; refine (copied_c pk A c _ ((HY.out.below HB1.out).below ((Below.refl _ _).drew)) (by omega)).mono ?_; rintro e w2 ⟨A2, k2, rfl, hq2, hb2⟩; have hb3 := below_undrew hb2; have hg2 := HC.out.below (HB1.out.trans (hb3.mono HB1.out.size)) HC.out.lt; obtain ⟨y0, hy0⟩ := Has.at4 hg2 HCL.out hj 0 (by omega); obtain ⟨y1, hy1⟩ := Has.at4 hg2 HCL.out hj 1 (by omega); obtain ⟨y2, hy2⟩ := Has.at4 hg2 HCL.out hj 2 (by omega); obtain ⟨y3, hy3⟩ := Has.at4 hg2 HCL.out hj 3 (by omega); rw [Nat.add_zero] at hy0; have hgf := hg2.frozen))
  obtain ⟨w3, hw3⟩ : ∃ w3, (((w2.setCell ⟨g, j * 4, none⟩ (.int .u32 pk.e)).setCell ⟨g, j * 4 + 1, none⟩ (.int .u32 pk.num)).setCell ⟨g, j * 4 + 2, none⟩ (.bool pk.wh)).setCell ⟨g, j * 4 + 3, none⟩ (.slice A2 pk.bs.length k2) = w3 := ⟨_, rfl⟩
  rw [hw3]
  have hb2' : Below w.heap.size w w2 := HB1.out.trans (hb3.mono HB1.out.size)
  have hp3 : Has w3 p 44 [.slice (some ⟨g, 0, none⟩) n n, .int .i64 (ps.length : Int), .int .i64 (lw ps)] := by
    rw [← hw3]; exact ((((HP.out.below hb2' hplt).far hpg _).far hpg _).far hpg _).far hpg _
  have hbox3 : Has w3 w.heap.size 32 [.int .u32 pk.e, .int .u32 pk.num, .bool pk.wh, .slice A pk.bs.length c] := by
    rw [← hw3]; exact ((((HBX.out.below hb3 HBX.out.lt).far hgn _).far hgn _).far hgn _).far hgn _
  have hput : ∀ cs, Has w2 g 32 cs → cs.length = n * 4 → Has w3 g 32 (put4 cs (ps.length % n) (.int .u32 pk.e) (.int .u32 pk.num) (.bool pk.wh) (.slice A2 pk.bs.length k2)) := by
    intro cs hcs _
    rw [← hw3, HJ.out]
    exact (((hcs.set _ _).set _ _).set _ _).set _ _
  have hbut : But (fun k => k = p ∨ k = g) w2 w3 := by
    rw [← hw3]
    exact ((((But.refl _ w2).set (.inr (.inr rfl)) _).set (.inr (.inr rfl)) _).set (.inr (.inr rfl)) _).set (.inr (.inr rfl)) _
  have hq2' := q_lower hq2 HB1.out.size
  have hlt1 : w1.heap.size ≤ w2.heap.size := hb3.size
  have F := Aside0.mk (And.intro hb2' (And.intro hput (And.intro hbut hq2')))
  have HP3 := Aside0.mk hp3
  obtain ⟨b0', b1', b2', b3', bf'⟩ := hbox3.four
  obtain ⟨c0', c1', c2', cf'⟩ := hp3.three
  clear hw3 hb2' hput hbut hq2' hq2 hb2 hg2 hy0 hy1 hy2 hy3 hgf hp3 hbox3 b0 b1 b2 b3 bf c0 c1 c2 cf b3' b0' b1' bf'
  by_cases hwh : pk.wh = true
  · have hwb : (Value.bool pk.wh) = .bool true := by rw [hwh]
    have HW := Aside0.mk hwh
    clear hwh
    go_wp2_with fail
    go_ret
    refine ⟨?_, ?_⟩
    · simp
    obtain ⟨hb2', hput, hbut, hq2'⟩ := F.out
    refine push_end HR.out hb2' hq2' hB hlen (hw := HW.out) HP3.out hput hbut
  · have hwf : pk.wh = false := by simpa using hwh
    have hwb : (Value.bool pk.wh) = .bool false := by rw [hwf]
    have HW := Aside0.mk hwf
    clear hwh hwf
    go_wp2_with fail
    go_ret
    refine ⟨?_, ?_⟩
    · simp
    obtain ⟨hb2', hput, hbut, hq2'⟩ := F.out
    refine push_end' HR.out hb2' hq2' hB hlen (hw := HW.out) HP3.out hput hbut
end Go.Proofs.Ytgbopeeohimlnaa.Own
