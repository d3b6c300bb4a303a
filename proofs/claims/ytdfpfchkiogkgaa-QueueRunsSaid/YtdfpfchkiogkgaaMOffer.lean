/-
  The law's model: its function offer by its contract.
-/
import Derived.Test.YtdfpfchkiogkgaaModel
import Derived.Deep.DeepCutAuto
set_option linter.unusedVariables false
set_option linter.unusedSimpArgs false
namespace Go.Proofs.Ytdfpfchkiogkgaa.Own
open Go.RowKit Go.Proofs.YtdfpfchkiogkgaaW.PrintWords Go.Proofs.YtdfpfchkiogkgaaW.PrintMore Go.Proofs.Ytdfpfchkiogkgaa.H

/-- What an offer to the model leaves. -/
def MOfferPost (w : World) (B m : Nat) (s : St) (mo : Nat → Prop) (r : Bool) (e : Ending) (w' : World) : Prop :=
  e = .returned (.bool r) ∧ MS w' B m s (grow mo w w') ∧ But mo w w'
theorem MS.grown {w0 w : World} {B m : Nat} {s : St} {mo : Nat → Prop} (h : MS w B m s mo) (hsz : w0.heap.size ≤ w.heap.size) (hB : B ≤ w0.heap.size) : MS w B m s (grow mo w0 w) := by
  obtain ⟨hv, lv, vs, h⟩ := h
  exact ⟨hv, lv, vs, h.wide (fun b hb => .inl hb) (fun b hb => by
    rcases hb with hb | hb
    · exact h.lt b hb
    · exact ⟨by omega, hb.2⟩)⟩
theorem MS.regrow {w0 w1 w : World} {B m : Nat} {s : St} {mo : Nat → Prop} (h : MS w B m s (grow mo w1 w)) (hsz : w0.heap.size ≤ w1.heap.size) (hsz1 : w1.heap.size ≤ w.heap.size) (hB : B ≤ w0.heap.size) : MS w B m s (grow mo w0 w) := by
  obtain ⟨hv, lv, vs, h⟩ := h
  exact ⟨hv, lv, vs, h.wide (fun b hb => hb.imp id (fun h => ⟨by omega, h.2⟩)) (fun b hb => by
    rcases hb with hb | hb
    · exact h.lt b (.inl hb)
    · exact ⟨by omega, hb.2⟩)⟩

theorem News.butp {S : Nat → Prop} {w w1 : World} {A : Option Addr} {m : Nat} {xs : List Value} (h : News w 1 A m xs) (hb : But S w w1) (hs : 0 < m → ∀ ad, A = some ad → ¬ S ad.block) : News w1 1 A m xs := by
  by_cases h0 : m = 0
  · exact ⟨h.1, h.2.1, fun h1 => by omega⟩
  · exact News.but h hb (hs (by omega))

set_option maxHeartbeats 4000000 in
theorem moffer_c {w : World} {B m : Nat} {s : St} {mo : Nat → Prop} (h : MS w B m s mo) (A : Option Addr) (c : Nat) (bs : List Int) (whole : Bool) (hn : News w 1 A bs.length (u8s bs)) (hc : bs.length ≤ c) (hA : 0 < bs.length → ∀ ad, A = some ad → ad.block < B) (hB : B ≤ w.heap.size) (hb : s.l.length ≤ s.most ∧ s.most ≤ 1000 ∧ s.lost ≤ 1000000) :
    Calls Try.prog 13 #[.pointer (some ⟨m, 0, none⟩), .slice A bs.length c, .bool whole] w (MOfferPost w B m (s.offer bs whole) mo (s.room.takes whole)) := by
  have hfl := mflush_c h (by omega)
  have hr := h
  obtain ⟨hv, lv, vs, h⟩ := h
  obtain ⟨hd, l, most, drops, lost⟩ := s
  dsimp only [St.offer] at *
  obtain ⟨A0, k0, hlv, _⟩ := q_slice h.lq
  subst hlv
  have HN := Aside0.mk hn
  have HA := Aside0.mk hA
  have HR := Aside0.mk hr
  have HFL := Aside0.mk hfl
  have hp : Has w m 41 [hv, .slice A0 l.length k0, .int .i64 (most : Int), .bool drops, .int .i64 (lost : Int)] := h.hp
  obtain ⟨c0, c1, c2, c3, c4, cf⟩ := hp.five
  clear hn hp hA hr hfl h
  have hd1 : ((l.length : Int) == (most : Int)) = true ∧ most ≤ l.length ∨ ((l.length : Int) == (most : Int)) = false ∧ ¬ most ≤ l.length := by
    by_cases hf : most ≤ l.length
    · exact .inl ⟨by simp; omega, hf⟩
    · exact .inr ⟨by rw [beq_eq_false_iff_ne]; omega, hf⟩
  have hlo : (St.mk hd l most drops lost).room.lost ≤ 1001000 ∧ (St.mk hd l most drops lost).room.l.length ≤ 1000 := by
    unfold St.room St.flush
    split <;> dsimp only <;> refine ⟨?_, ?_⟩ <;> first | omega | simp
  obtain ⟨s1, hs⟩ : ∃ s1, (St.mk hd l most drops lost).room = s1 := ⟨_, rfl⟩
  rw [hs] at hlo ⊢
  have HSR := Aside0.mk hs
  clear hs
  go_enter Try.func13, Try.ntmps13
  go_upto_region 1 with (fail)
  go_cut [16] from 7 (fun s16 wx => s16 = .bool ((l.length : Int) == (most : Int)) ∧ w.drew = wx)
  case first =>
    go_region
    go_wp2_with fail
    go_meet
    case rel => exact ⟨rfl, rfl⟩
  case rest =>
  obtain ⟨rfl, rfl⟩ := hcut
  go_upto_if 16 with (fail)
  go_cut [] from 7 (fun wx => MS wx B m s1 mo ∧ But mo w wx ∧ wx.heap.size = w.heap.size)
  case first =>
    rcases hd1 with ⟨e1, hf⟩ | ⟨e1, hf⟩
    · have hroom : (St.mk hd l most drops lost).room = (St.mk hd l most drops lost).flush := by simp [St.room, hf]
      go_wp2_with fail
      refine (mflush_c (HR.out.below (Below.refl _ w).drew) (by dsimp only; omega)).mono ?_
      rintro e wx ⟨rfl, h1, h2, h3⟩
      go_wp2_with fail
      go_meet
      case rel => exact ⟨by rw [← HSR.out, hroom]; exact h1, ⟨h2.os, h2.tape, h2.output, h2.size, h2.block⟩, h3⟩
    · have hroom : (St.mk hd l most drops lost).room = (St.mk hd l most drops lost) := by simp [St.room, hf]
      go_wp2_with fail
      go_meet
      case rel => exact ⟨by rw [← HSR.out, hroom]; exact HR.out.below (Below.refl _ w).drew, (But.refl mo w).drew, rfl⟩
  case rest =>
  clear c0 c1 c2 c3 c4 cf hd1
  obtain ⟨h1, hb1, hs1⟩ := hcut
  obtain ⟨w1, rfl⟩ : ∃ w1 : World, w1 = wc := ⟨_, rfl⟩
  obtain ⟨hv1, lv1, vs1, h1⟩ := h1
  clear HR HFL hb HSR
  obtain ⟨hd1, l1, most1, drops1, lost1⟩ := s1
  dsimp only at hlo
  have H1 := Aside0.mk (And.intro h1 (And.intro hb1 hs1))
  have HN1 := Aside0.mk (News.butp HN.out hb1 (fun h0 ad hA hmo => by have := HA.out h0 ad hA; have := (h1.lt ad.block hmo).1; omega))
  obtain ⟨A1, k1, hlv1, _⟩ := q_slice h1.lq
  subst hlv1
  have hp : Has w1 m 41 [hv1, .slice A1 l1.length k1, .int .i64 (most1 : Int), .bool drops1, .int .i64 (lost1 : Int)] := h1.hp
  obtain ⟨c0, c1, c2, c3, c4, cf⟩ := hp.five
  clear h1 hb1 hs1 hp
  have hcase : (drops1 && !whole) = true ∨ (drops1 && !whole) = false := by cases drops1 <;> cases whole <;> simp
  rcases hcase with hdw | hdw
  · obtain ⟨rfl, rfl⟩ : drops1 = true ∧ whole = false := by cases drops1 <;> cases whole <;> simp at hdw; exact ⟨rfl, rfl⟩
    clear hdw
    go_wp2_with fail
    refine bodyPost_ret (v := .bool false) (by simp [results, Try.results13, go_sem, *]) rfl ⟨rfl, ?_, ?_⟩
    · have := H1.out.1.setLost (lost1 + 1)
      refine MS.grown ⟨_, _, _, by simpa [St.put] using this⟩ (by simp [H1.out.2.2]) hB
    · exact H1.out.2.1.set (.inr H1.out.1.op) _
  · have hput : (St.mk hd1 l1 most1 drops1 lost1).put bs whole = { (St.mk hd1 l1 most1 drops1 lost1) with drops := false, l := l1 ++ [bs] } := by simp [St.put, hdw]
    have htk : (St.mk hd1 l1 most1 drops1 lost1).takes whole = true := by simp [St.takes]; cases drops1 <;> cases whole <;> simp at hdw ⊢
    have HPUT := Aside0.mk (And.intro hput htk)
    have h2 := H1.out.1.setDrops false
    obtain ⟨w2, hw2⟩ : ∃ w2, w1.setCell ⟨m, 3, none⟩ (.bool false) = w2 := ⟨_, rfl⟩
    have hb2 := H1.out.2.1.set (p := ⟨m, 3, none⟩) (.inr H1.out.1.op) (.bool false)
    have hs2 : w2.heap.size = w.heap.size := by rw [← hw2]; simpa using H1.out.2.2
    have hn2 := News.butp HN1.out ((But.refl mo w1).set (p := ⟨m, 3, none⟩) (.inr H1.out.1.op) (.bool false)) (fun h0 ad hA hmo => by have := HA.out h0 ad hA; have := (H1.out.1.lt ad.block hmo).1; omega)
    have hB2 : B ≤ w2.heap.size := by omega
    rw [hw2] at h2 hb2 hn2
    have HW2 := Aside0.mk hw2
    have HS2 := Aside0.mk hs2
    have H2 := Aside0.mk (And.intro h2 hb2)
    have HN2 := Aside0.mk hn2
    have hlt2 := h2.lt m h2.op
    have hp : Has w2 m 41 [hv1, .slice A1 l1.length k1, .int .i64 (most1 : Int), .bool false, .int .i64 (lost1 : Int)] := h2.hp
    obtain ⟨d0, d1, d2, d3, d4, df⟩ := hp.five
    clear h2 hb2 hn2 hs2 hp hw2 htk hput
    have hcase2 : (drops1 = false ∧ whole = false) ∨ (drops1 = false ∧ whole = true) ∨ (drops1 = true ∧ whole = true) := by cases drops1 <;> cases whole <;> simp at hdw ⊢
    clear hdw
    rcases hcase2 with ⟨rfl, rfl⟩ | ⟨rfl, rfl⟩ | ⟨rfl, rfl⟩
    all_goals
      go_upto_region 7 with (fail)
      rw [HW2.out]
      clear c0 c1 c2 c3 c4 cf H1 HN1 HW2
      go_wp2_with (at_builtin; refine wpList_append_q T39 _ rfl _ _ rfl B (.slice A1 l1.length k1) l1.length vs1 rfl ?c0 (some ⟨w2.heap.size, 0, none⟩) 1 1 [.slice A bs.length c] rfl ?c1 ?c2 ?c3 ?c4 ?_)
      case c0 => exact q_move H2.out.1.lq (fun k hk => heap_alloc_old w2 _ (q_lt H2.out.1.lq k hk))
      case c1 => exact one_new w2 32 _ rfl
      case c2 => unfold maxLen; omega
      case c3 => omega
      case c4 => first | omega | (simp; omega)
      rintro v' w4 ⟨hq4, hg4, hat4, _⟩
      have hp4 : Has w4 m 41 [hv1, .slice A1 l1.length k1, .int .i64 (most1 : Int), .bool false, .int .i64 (lost1 : Int)] := (Has.alloc H2.out.1.hp _).grown hg4 (fun e => H2.out.1.lne m e.symm rfl)
      obtain ⟨A4, k4, hv4, _⟩ := q_slice hq4
      subst hv4
      have hpush := H2.out.1.pushed (n := l1.length + 1) (pkt := .slice A bs.length c) (bs := bs) rfl (⟨A, c, rfl, hc, HN2.out, fun h0 ad hA => ⟨.inl (HA.out h0 ad hA), by have := HA.out h0 ad hA; omega, fun e => by have := HA.out h0 ad hA; have := (q_typed H2.out.1.lq _ e).1; omega⟩⟩) hq4 hg4 hat4
      have HP := Aside0.mk hpush
      clear hpush hq4 hg4 hat4 d0 d1 d2 d3 d4 df
      obtain ⟨d0, d1, d2, d3, d4, df⟩ := hp4.five
      clear hp4
      go_wp2_with fail
      refine bodyPost_ret (v := .bool true) (by simp [results, Try.results13, go_sem, *]) rfl ⟨by rw [HPUT.out.2], ?_, ?_⟩
      · rw [HPUT.out.1]
        refine MS.regrow ⟨_, _, _, HP.out.1⟩ (by have := HS2.out; omega) HP.out.2.size hB
      · exact H2.out.2.trans HP.out.2
end Go.Proofs.Ytdfpfchkiogkgaa.Own
