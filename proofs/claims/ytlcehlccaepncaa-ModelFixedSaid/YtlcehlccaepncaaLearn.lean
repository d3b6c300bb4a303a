/-
  The model's function Learn by its contract.
-/
import Derived.Test.YtlcehlccaepncaaModel
set_option linter.unusedVariables false
set_option linter.unusedSimpArgs false
namespace Go.Proofs.Ytlcehlccaepncaa.Own
open Go.RowKit Go.Proofs.YtlcehlccaepncaaW.PrintWords Go.Proofs.YtlcehlccaepncaaW.PrintMore Go.Proofs.Ytlcehlccaepncaa.H

def half (n : Nat) : Nat := (n + 1) / 2
def rise (fs : List Nat) (s : Nat) : List Nat := fs.set s (fs.getD s 0 + 32)
def learn (fs : List Nat) (s : Nat) : List Nat := if 8192 < (rise fs s).sum then (rise fs s).map half else rise fs s

theorem rise_len (fs : List Nat) (s : Nat) : (rise fs s).length = fs.length := by simp [rise]
theorem learn_len (fs : List Nat) (s : Nat) : (learn fs s).length = fs.length := by unfold learn; split <;> simp [rise_len]
theorem rise_sum {fs : List Nat} {s : Nat} (h : s < fs.length) : (rise fs s).sum = fs.sum + 32 := by
  unfold rise
  induction fs generalizing s with
  | nil => simp at h
  | cons x xs ih =>
    cases s with
    | zero => simp; omega
    | succ s => have := ih (s := s) (by simpa using h); simp at this ⊢; omega
theorem rise_pos {fs : List Nat} {s : Nat} (h : ∀ x ∈ fs, 1 ≤ x) : ∀ x ∈ rise fs s, 1 ≤ x := by
  intro x hx
  rcases List.mem_or_eq_of_mem_set hx with h1 | h1
  · exact h x h1
  · omega
theorem half_sum (fs : List Nat) : 2 * (fs.map half).sum ≤ fs.sum + fs.length := by
  induction fs with
  | nil => simp
  | cons x xs ih => simp [half] at ih ⊢; omega
theorem learn_good {fs : List Nat} {s : Nat} (h : Good fs) (hs : s < fs.length) : Good (learn fs s) := by
  have h1 := rise_sum hs
  have h2 := half_sum (rise fs s)
  have h3 := rise_len fs s
  refine ⟨by rw [learn_len]; exact h.len, ?_, ?_⟩
  · have := h.sum; have := h.len; unfold learn; split <;> omega
  · have := rise_pos (s := s) h.pos
    unfold learn; split
    · intro x hx
      obtain ⟨y, hy, rfl⟩ := List.mem_map.1 hx
      have := this y hy
      unfold half; omega
    · exact this
theorem half_take (rs : List Nat) (i : Nat) : ((rs.map half).take i).sum ≤ rs.sum + 64 - 64 + rs.length := by
  have h1 : ((rs.map half).take i).sum ≤ (rs.map half).sum := by
    conv => rhs; rw [← List.take_append_drop i (rs.map half)]
    rw [List.sum_append]; omega
  have := half_sum rs
  omega

/-- At the head of the loop that halves. -/
def HalfRel (w : World) (B p g o c : Nat) (rs : List Nat) (d : Nat) (v : Value) (wr : World) : Prop :=
  ∃ i : Nat, v = .int .i64 i ∧ i + d = rs.length ∧ Has wr p 50 [.slice (some ⟨g, o, none⟩) rs.length c, .int .u32 (((rs.map half).take i).sum : Nat), .bool false] ∧ QRow wr B 23 1 (.slice (some ⟨g, o, none⟩) rs.length c) rs.length (u32s ((rs.map half).take i ++ rs.drop i)) ∧ But (fun k => k = p ∨ k = g) w wr

def LearnPost (w : World) (B p g o c : Nat) (fs : List Nat) (e : Ending) (w' : World) : Prop := e = .returned (.int .i64 0) ∧ Mod w' B p g o c fs false ∧ But (fun k => k = p ∨ k = g) w w'

theorem mix_at {rs : List Nat} {i : Nat} (h : i < rs.length) : (u32s ((rs.map half).take i ++ rs.drop i))[i]? = some (.int .u32 ((rs.getD i 0 : Nat) : Int)) := by
  simp [u32s, List.getElem?_append, h, Nat.min_eq_left (Nat.le_of_lt h)]
theorem mix_set {rs : List Nat} {i : Nat} (h : i < rs.length) : (u32s ((rs.map half).take i ++ rs.drop i)).set i (.int .u32 ((half (rs.getD i 0) : Nat) : Int)) = u32s ((rs.map half).take (i + 1) ++ rs.drop (i + 1)) := by
  rw [← u32s_set]
  congr 1
  rw [List.set_append_right _ _ (by simp; omega)]
  rw [List.take_succ_eq_append_getElem (by simpa using h)]
  simp [Nat.min_eq_left (Nat.le_of_lt h), h]
  rw [List.drop_eq_getElem_cons h]
  rfl
theorem mix_sum {rs : List Nat} {i : Nat} (h : i < rs.length) : ((rs.map half).take (i + 1)).sum = ((rs.map half).take i).sum + half (rs.getD i 0) := by
  rw [List.take_succ_eq_append_getElem (by simpa using h)]
  simp [h]

set_option maxHeartbeats 4000000 in
theorem learn_c {w : World} {B p g o c : Nat} {fs : List Nat} (h : Mod w B p g o c fs false) (s : Nat) (hs : s < fs.length) : Calls Try.prog 9 #[.pointer (some ⟨p, 0, none⟩), .int .i64 (s : Int)] w (LearnPost w B p g o c (learn fs s)) := by
  obtain ⟨c0, c1, c2, cf⟩ := h.hm.three
  have hpg := h.ne
  have hgp := Ne.symm hpg
  have hg64 := h.good.len.2
  have hsum := h.good.sum
  obtain ⟨g', o', he, _, hc, hgf, hset⟩ := q_open h.hq h.good.len.1
  simp only [Option.some.injEq, Addr.mk.injEq, and_true] at he
  obtain ⟨rfl, rfl⟩ := he
  have x0 := (hc s hs).trans (u32s_at hs)
  have hx := sum_ge (fs := fs) (i := s)
  obtain ⟨x, hxe⟩ : ∃ x, fs.getD s 0 = x := ⟨_, rfl⟩
  rw [hxe] at x0 hx
  have hrs : rise fs s = fs.set s (x + 32) := by rw [← hxe]; rfl
  have hrsum := rise_sum hs
  have HM := Aside0.mk h
  have d1 : decide ((s : Int) < 0) = false := by simp
  have d2 : decide ((fs.length : Int) ≤ (s : Int)) = false := by simp; omega
  have d3 : decide (fs.length ≤ s) = false := by simp; omega
  have hsi : (s : Int) < (fs.length : Int) := by omega
  have hsi0 : (0 : Int) ≤ (s : Int) := by omega
  have HSET := Aside0.mk hset
  clear h hc hset
  have hq1 : QRow ((w.setCell ⟨g, o + s, none⟩ (.int .u32 ((x : Int) + 32))).setCell ⟨p, 1, none⟩ (.int .u32 ((fs.sum : Int) + 32))) B 23 1 (.slice (some ⟨g, o, none⟩) fs.length c) fs.length (u32s (rise fs s)) := by
    refine q_far ?_ (fun k hk => by simp [Value.ownBlock] at hk; simp; omega) _
    have := HSET.out s (.int .u32 ((x + 32 : Nat) : Int)) hs
    rw [← u32s_set, ← hrs] at this
    simpa using this
  have hm1 : Has ((w.setCell ⟨g, o + s, none⟩ (.int .u32 ((x : Int) + 32))).setCell ⟨p, 1, none⟩ (.int .u32 ((fs.sum : Int) + 32))) p 50 [.slice (some ⟨g, o, none⟩) fs.length c, .int .u32 ((fs.sum : Int) + 32), .bool false] :=
    (HM.out.hm.far hpg _).set 1 _
  have hb1 : But (fun k => k = p ∨ k = g) w ((w.setCell ⟨g, o + s, none⟩ (.int .u32 ((x : Int) + 32))).setCell ⟨p, 1, none⟩ (.int .u32 ((fs.sum : Int) + 32))) :=
    ((But.refl _ w).set (.inr (.inr rfl)) _).set (.inr (.inl rfl)) _
  have H1 := Aside0.mk (And.intro hq1 (And.intro hm1 hb1))
  have hgood := learn_good HM.out.good hs
  have hlen := learn_len fs s
  have hrlen := rise_len fs s
  clear hq1 hm1 hb1
  by_cases hbig : 8192 < fs.sum + 32
  · have e1 : decide ((8192 : Int) < (fs.sum : Int) + 32) = true := by simp; omega
    have e2 : decide (8192 < fs.sum + 32) = true := by simp; omega
    have hle : learn fs s = (rise fs s).map half := by unfold learn; rw [if_pos (by omega)]
    have hlt64 := half_take (rise fs s)
    have hel := fun i => sum_ge (fs := rise fs s) (i := i)
    go_enter Try.func9, Try.ntmps9
    go_wp2_with fail
    obtain ⟨w1, hw1⟩ : ∃ w1, ((w.setCell ⟨g, o + s, none⟩ (.int .u32 ((x : Int) + 32))).setCell ⟨p, 1, none⟩ (.int .u32 ((fs.sum : Int) + 32))).setCell ⟨p, 1, none⟩ (.int .u32 0) = w1 := ⟨_, rfl⟩
    rw [hw1]
    have hst : HalfRel w B p g o c (rise fs s) fs.length (.int .i64 ((0 : Nat) : Int)) w1 := by
      rw [← hw1]
      refine ⟨0, rfl, by omega, ?_, ?_, H1.out.2.2.set (.inr (.inl rfl)) _⟩
      · simpa [hrlen] using H1.out.2.1.set 1 (.int .u32 0)
      · simpa [hrlen] using q_far H1.out.1 (fun k hk => by simp [Value.ownBlock] at hk; simp; omega) (p := ⟨p, 1, none⟩) (.int .u32 0)
    have HST := Aside0.mk hst
    clear hst hw1 c0 c1 c2 cf
    obtain ⟨rs, hrse⟩ : ∃ rs, rise fs s = rs := ⟨_, rfl⟩
    rw [hrse] at HST hle hlt64 hrlen hel hrsum
    obtain ⟨ls, hlse⟩ : ∃ ls, learn fs s = ls := ⟨_, rfl⟩
    rw [hlse] at hle hgood hlen ⊢
    go_loopg [55] fs.length (fun d v wr => HalfRel w B p g o c rs d v wr)
    case atStart => exact HST.out
    case round =>
      clear HST
      obtain ⟨i, rfl, hi, hm, hq, hb⟩ := hrel
      rw [hrlen] at hi hm hq
      obtain ⟨c0, c1, c2, cf⟩ := hm.three
      have hs64 := hlt64 i
      by_cases hlt : i < fs.length
      · cases gk with
        | zero => omega
        | succ gk =>
        obtain ⟨g', o', he, _, hc, hgf, hset⟩ := q_open hq (by omega)
        simp only [Option.some.injEq, Addr.mk.injEq, and_true] at he
        obtain ⟨rfl, rfl⟩ := he
        have y0 := (hc i hlt).trans (mix_at (by omega))
        have hy := hel i
        have hms := mix_sum (rs := rs) (i := i) (by omega)
        have hmst := mix_set (rs := rs) (i := i) (by omega)
        obtain ⟨y, hye⟩ : ∃ y, rs.getD i 0 = y := ⟨_, rfl⟩
        rw [hye] at y0 hy hms hmst
        have hil : (i : Int) < (fs.length : Int) := by omega
        have hi0 : (0 : Int) ≤ (i : Int) := by omega
        have hdiv : Int.tdiv ((y : Int) + 1) 2 = ((half y : Nat) : Int) := by unfold half; rw [Int.tdiv_eq_ediv_of_nonneg (by omega)]; omega
        have hhb : half y ≤ 8192 := by unfold half; omega
        have HQ := Aside0.mk (And.intro hm (And.intro hb hset))
        clear hc hset hq hm hb
        go_wp2_with fail
        obtain ⟨w3, hw3⟩ : ∃ w3, wr.setCell ⟨g, o + i, none⟩ (.int .u32 ((half y : Nat) : Int)) = w3 := ⟨_, rfl⟩
        rw [hw3]
        have hm3 : Has w3 p 50 [.slice (some ⟨g, o, none⟩) fs.length c, .int .u32 (((rs.map half).take i).sum : Nat), .bool false] := by rw [← hw3]; exact HQ.out.1.far hpg _
        have hq3 : QRow w3 B 23 1 (.slice (some ⟨g, o, none⟩) fs.length c) fs.length (u32s ((rs.map half).take (i + 1) ++ rs.drop (i + 1))) := by
          rw [← hw3, ← hmst]; exact HQ.out.2.2 i _ hlt
        have hb3 : But (fun k => k = p ∨ k = g) w w3 := by rw [← hw3]; exact HQ.out.2.1.set (.inr (.inr rfl)) _
        have z0 : w3.cell? ⟨g, o + i, none⟩ = some (.int .u32 ((half y : Nat) : Int)) := by rw [← hw3]; exact World.cell?_setCell_same _ _ _ y0
        have H3 := Aside0.mk (And.intro hm3 (And.intro hq3 hb3))
        clear c0 c1 c2 cf hq3 hb3 hw3 HQ hgf
        obtain ⟨c0, c1, c2, cf⟩ := hm3.three
        clear hm3
        have hadd : IntKind.u32.wrap ((((rs.map half).take i).sum : Nat) + (half y : Nat)) = ((((rs.map half).take (i + 1)).sum : Nat) : Int) := by rw [hms, IntWalk.u32_in _ (by omega)]; omega
        go_region
        go_wp2_with fail
        go_roundg gk
        case measure => omega
        case rel =>
          refine ⟨i + 1, by go_num, by omega, ?_, ?_, ?_⟩
          · rw [hrlen, hms]; push_cast; exact (H3.out.1.set 1 _).drew
          · rw [hrlen]; exact q_move H3.out.2.1 (fun k hk => by simp [Value.ownBlock] at hk; exact Below.heap_setCell _ _ _ k (by simp; omega))
          · exact (H3.out.2.2.set (.inr (.inl rfl)) _).drew
      · go_wp2_with fail
        refine bodyPost_ret (v := .int .i64 0) (by simp [results, Try.results9, go_sem, *]) rfl ⟨rfl, ?_, hb⟩
        have hin : i = fs.length := by omega
        refine ⟨by rw [hlse]; exact hgood, HM.out.hp, ?_, ?_⟩
        · rw [hlse, hlen, hle]
          rw [List.take_of_length_le (by simp; omega)] at hm
          exact hm
        · rw [hlse, hlen, hle]
          rw [List.take_of_length_le (by simp; omega), List.drop_eq_nil_of_le (by omega), List.append_nil] at hq
          exact hq
  · have e1 : decide ((8192 : Int) < (fs.sum : Int) + 32) = false := by simp; omega
    have e2 : decide (8192 < fs.sum + 32) = false := by simp; omega
    have hle : learn fs s = rise fs s := by unfold learn; rw [if_neg (by omega)]
    go_enter Try.func9, Try.ntmps9
    go_wp2_with fail
    refine bodyPost_ret (v := .int .i64 0) (by simp [results, Try.results9, go_sem, *]) rfl ⟨rfl, ?_, H1.out.2.2⟩
    refine ⟨hgood, HM.out.hp, ?_, ?_⟩
    · rw [hlen, hle, hrsum]
      simpa using H1.out.2.1
    · rw [hlen, hle]; exact H1.out.1
end Go.Proofs.Ytlcehlccaepncaa.Own
