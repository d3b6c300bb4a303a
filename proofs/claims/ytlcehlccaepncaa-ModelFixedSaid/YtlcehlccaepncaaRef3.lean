/-
  The reference's function Learn by its contract.
-/
import Derived.Test.YtlcehlccaepncaaRef2
set_option linter.unusedVariables false
set_option linter.unusedSimpArgs false
namespace Go.Proofs.Ytlcehlccaepncaa.Own
open Go.RowKit Go.Proofs.YtlcehlccaepncaaW.PrintWords Go.Proofs.YtlcehlccaepncaaW.PrintMore Go.Proofs.Ytlcehlccaepncaa.H

def RHalfRel (w : World) (B p g o c : Nat) (rs : List Nat) (d : Nat) (v : Value) (wr : World) : Prop :=
  ∃ i : Nat, v = .int .i64 i ∧ i + d = rs.length ∧ Has wr p 53 [.slice (some ⟨g, o, none⟩) rs.length c, .bool false] ∧ QRow wr B 3 1 (.slice (some ⟨g, o, none⟩) rs.length c) rs.length (i64s ((rs.map half).take i ++ rs.drop i)) ∧ But (fun k => k = p ∨ k = g) w wr

def RLearnPost (w : World) (B p g o c : Nat) (fs : List Nat) (e : Ending) (w' : World) : Prop := e = .returned (.tuple #[]) ∧ Ref w' B p g o c fs false ∧ But (fun k => k = p ∨ k = g) w w'

set_option maxHeartbeats 4000000 in
set_option maxRecDepth 100000 in
theorem rlearn_c {w : World} {B p g o c : Nat} {fs : List Nat} (h : Ref w B p g o c fs false) (hgd : Good fs) (s : Nat) (hs : s < fs.length) : Calls Try.prog 10 #[.pointer (some ⟨p, 0, none⟩), .int .i64 (s : Int)] w (RLearnPost w B p g o c (learn fs s)) := by
  obtain ⟨c0, c1, cf⟩ := Has.two h.hm
  have hpg := h.ne
  have hgp := Ne.symm hpg
  have hg64 := h.len.2
  have hsum := hgd.sum
  obtain ⟨g', o', he, _, hc, hgf, hset⟩ := q_open h.hq h.len.1
  simp only [Option.some.injEq, Addr.mk.injEq, and_true] at he
  obtain ⟨rfl, rfl⟩ := he
  have x0 := (hc s hs).trans (i64s_at hs)
  have hx := sum_ge (fs := fs) (i := s)
  obtain ⟨x, hxe⟩ : ∃ x, fs.getD s 0 = x := ⟨_, rfl⟩
  rw [hxe] at x0 hx
  have hrs : rise fs s = fs.set s (x + 32) := by rw [← hxe]; rfl
  have hrsum := rise_sum hs
  have HM := Aside0.mk h
  have hsi : (s : Int) < (fs.length : Int) := by omega
  have hsi0 : (0 : Int) ≤ (s : Int) := by omega
  have hwx : IntKind.i64.wrap ((x : Int) + 32) = ((x + 32 : Nat) : Int) := by rw [IntWalk.i64_in _ (by omega)]; omega
  have hgood := learn_good hgd hs
  have hlen := learn_len fs s
  have hrlen := rise_len fs s
  have HSET := Aside0.mk hset
  clear h hc hset
  go_enter Try.func10, Try.ntmps10
  go_wp2_with fail
  go_region
  obtain ⟨w1, hw1⟩ : ∃ w1, (w.setCell ⟨g, o + s, none⟩ (.int .i64 ((x : Int) + 32))).drew = w1 := ⟨_, rfl⟩
  rw [hw1]
  have hb1 : But (fun k => k = p ∨ k = g) w w1 := by rw [← hw1]; exact ((But.refl _ w).set (.inr (.inr rfl)) _).drew
  have hr1 : Ref w1 B p g o c (rise fs s) false := by
    rw [← hw1]
    refine ⟨by rw [hrlen]; exact HM.out.len, by omega, HM.out.hp, ?_, ?_⟩
    · rw [hrlen]; exact (HM.out.hm.far hpg _).drew
    · have := HSET.out s (.int .i64 ((x + 32 : Nat) : Int)) hs
      rw [← i64s_set, ← hrs] at this
      rw [hrlen]
      have h3 : QRow (w.setCell ⟨g, o + s, none⟩ (.int .i64 ((x : Int) + 32))) B 3 1 (.slice (some ⟨g, o, none⟩) fs.length c) fs.length (i64s (rise fs s)) := by simpa using this
      exact q_move h3 (fun _ _ => rfl)
  clear hw1 c0 c1 cf x0 hgf
  have hle : learn fs s = if 8192 < (rise fs s).sum then (rise fs s).map half else rise fs s := rfl
  obtain ⟨rs, hrse⟩ : ∃ rs, rise fs s = rs := ⟨_, rfl⟩
  rw [hrse] at hr1 hle hrlen hrsum
  obtain ⟨c0, c1, cf⟩ := Has.two hr1.hm
  rw [hrlen] at c0
  have HLE := Aside0.mk hle
  clear hle
  go_wp2_with fail
  refine (sum_c hr1 fs.length (by omega)).mono ?_
  rintro e w2 ⟨rfl, rfl⟩
  rw [show (rs.take fs.length).sum = rs.sum by rw [← hrlen, List.take_length]]
  by_cases hbig : 8192 < rs.sum
  · have e1 : decide ((8192 : Int) < (rs.sum : Int)) = true := by simp; omega
    have e2 : decide (8192 < rs.sum) = true := by simp; omega
    have hle := HLE.out
    clear HLE
    rw [if_pos hbig] at hle
    have HST := Aside0.mk (⟨0, rfl, by omega, hr1.hm, by simpa using hr1.hq, hb1⟩ : RHalfRel w B p g o c rs fs.length (.int .i64 ((0 : Nat) : Int)) w1)
    clear hr1 hb1 c0 c1 cf
    have hel := fun i => sum_ge (fs := rs) (i := i)
    go_wp2_with fail
    go_loopg [4] fs.length (fun d v wr => RHalfRel w B p g o c rs d v wr)
    case atStart => exact HST.out
    case round =>
      clear HST
      obtain ⟨i, rfl, hi, hm, hq, hb⟩ := hrel
      rw [hrlen] at hi hm hq
      obtain ⟨c0, c1, cf⟩ := Has.two hm
      by_cases hlt : i < fs.length
      · cases gk with
        | zero => omega
        | succ gk =>
        obtain ⟨g', o', he, _, hc, hgf, hset⟩ := q_open hq (by omega)
        simp only [Option.some.injEq, Addr.mk.injEq, and_true] at he
        obtain ⟨rfl, rfl⟩ := he
        have y0 := (hc i hlt).trans (imix_at (by omega))
        have hy := hel i
        have hmst := imix_set (rs := rs) (i := i) (by omega)
        obtain ⟨y, hye⟩ : ∃ y, rs.getD i 0 = y := ⟨_, rfl⟩
        rw [hye] at y0 hy hmst
        have hil : (i : Int) < (fs.length : Int) := by omega
        have hi0 : (0 : Int) ≤ (i : Int) := by omega
        have hdiv : Int.tdiv ((y : Int) + 1) 2 = ((half y : Nat) : Int) := by unfold half; rw [Int.tdiv_eq_ediv_of_nonneg (by omega)]; omega
        have hhb : half y ≤ 8192 := by unfold half; omega
        have hwh : IntKind.i64.wrap ((half y : Nat) : Int) = ((half y : Nat) : Int) := IntWalk.i64_in _ (by omega)
        have hwy : IntKind.i64.wrap ((y : Int) + 1) = (y : Int) + 1 := IntWalk.i64_in _ (by omega)
        have HQ := Aside0.mk (And.intro hm (And.intro hb hset))
        clear hc hset hq hm hb
        go_wp2_with fail
        go_region
        go_wp2_with fail
        go_roundg gk
        case measure => omega
        case rel =>
          refine ⟨i + 1, by go_num, by omega, ?_, ?_, ?_⟩
          · rw [hrlen]; exact (HQ.out.1.far hpg _).drew
          · rw [hrlen, ← hmst]; exact q_move (HQ.out.2.2 i _ hlt) (fun _ _ => rfl)
          · exact (HQ.out.2.1.set (.inr (.inr rfl)) _).drew
      · have hin : i = fs.length := by omega
        go_wp2_with fail
        refine bodyPost_ret (v := .tuple #[]) (by simp [results, Try.results10, go_sem, *]) rfl ⟨rfl, ?_, hb⟩
        refine ⟨by rw [hlen]; exact HM.out.len, by have := hgood.sum; omega, HM.out.hp, ?_, ?_⟩
        · rw [hlen]; exact hm
        · rw [hlen, hle]
          rw [List.take_of_length_le (by simp; omega), List.drop_eq_nil_of_le (by omega), List.append_nil] at hq
          exact hq
  · have e1 : decide ((8192 : Int) < (rs.sum : Int)) = false := by simp; omega
    have e2 : decide (8192 < rs.sum) = false := by simp; omega
    have hle := HLE.out
    clear HLE
    rw [if_neg hbig] at hle
    have HR := Aside0.mk (And.intro hr1 hb1)
    clear hr1 hb1
    go_wp2_with fail
    refine bodyPost_ret (v := .tuple #[]) (by simp [results, Try.results10, go_sem, *]) rfl ⟨rfl, ?_, HR.out.2⟩
    rw [hle]; exact HR.out.1
end Go.Proofs.Ytlcehlccaepncaa.Own
