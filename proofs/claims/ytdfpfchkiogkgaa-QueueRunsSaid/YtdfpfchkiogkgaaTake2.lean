/-
  The queue's function Take by its contract: the walk.
-/
import Derived.Test.YtdfpfchkiogkgaaTake
set_option linter.unusedVariables false
set_option linter.unusedSimpArgs false
namespace Go.Proofs.Ytdfpfchkiogkgaa.Own
open Go.RowKit Go.Proofs.YtdfpfchkiogkgaaW.PrintWords Go.Proofs.YtdfpfchkiogkgaaW.PrintMore Go.Proofs.Ytdfpfchkiogkgaa.H

/-- A row of one's own, opened: where it lies, and that it may be written. -/
theorem q_open {w : World} {base e n c : Nat} {A : Option Addr} {xs : List Value} (h : QRow w base e 1 (.slice A n c) n xs) (hn : 0 < n) :
    ∃ g o, A = some ⟨g, o, none⟩ ∧ base ≤ g ∧ (∀ j, j < n → w.cell? ⟨g, o + j, none⟩ = xs[j]?) ∧ (∀ j, w.frozen? ⟨g, j, none⟩ = false) ∧
      ∀ (i : Nat) (u : Value), i < n → QRow (w.setCell ⟨g, o + i, none⟩ u) base e 1 (.slice A n c) n (xs.set i u) := by
  obtain ⟨hl, h2⟩ := h
  rcases h2 with ⟨h0, _⟩ | ⟨g, off, cap, cur, he, hb, hh, hnc, hm, hs, ht⟩
  · omega
  · injection he with ha _ hc
    subst ha; subst hc
    simp only [Nat.mul_one] at *
    refine ⟨g, off, rfl, hb, fun j hj => ?_, fun j => blk_frozen hh j, fun i u hi => ⟨by simpa using hl, .inr ⟨g, off, c, cur.setIfInBounds (off + i) u, by simp, hb, blk_set hh _ _, hnc, hm, by simpa using hs, ?_⟩⟩⟩
    · rw [blk_cell hh, ← ht, List.getElem?_take, if_pos hj, List.getElem?_drop, Array.getElem?_toList]
    · simp only [Nat.mul_one, Array.toList_setIfInBounds]
      rw [List.drop_set, if_neg (by omega), List.take_set, ht]
      congr 1
      omega

def TakeRel (w : World) (B p : Nat) (s : St) (own : Nat → Prop) (n : Nat) (d : Nat) (v : Value) (wr : World) : Prop :=
  ∃ (out hd : List Int) (l : List (List Int)) (hv lv : Value) (vs : List Value), QRow wr w.heap.size 5 1 v out.length (u8s out) ∧ QAt wr B p hd l s.most s.drops s.lost own hv lv vs ∧ But own w wr ∧ out.length ≤ n ∧ l.length + (n - out.length) = d ∧
    tk s.l s.hd n = (out ++ (tk l hd (n - out.length)).1, (tk l hd (n - out.length)).2)

/-- What a take leaves: the bytes that go lie in a row of one's own. -/
def TakePost (w : World) (B p : Nat) (s : St) (own : Nat → Prop) (n : Nat) (e : Ending) (w' : World) : Prop :=
  ∃ v, e = .returned v ∧ QRow w' w.heap.size 5 1 v (s.goes n).length (u8s (s.goes n)) ∧ QS w' B p (s.take n) own ∧ But own w w'

theorem take_low (n : Int) (hn : n ≤ 0) (p : Nat) (w : World) : Calls Try.prog 11 #[.pointer (some ⟨p, 0, none⟩), .int .i64 n] w (Quiet (.slice none 0 0) w) := by
  have d1 : decide (n ≤ 0) = true := decide_eq_true hn
  go_enter Try.func11, Try.ntmps11
  go_wp2_with fail
  exact bodyPost_ret (v := .slice none 0 0) (by simp [results, Try.results11, go_sem, *]) rfl ⟨rfl, rfl⟩

theorem addr_block (a : Addr) (k : Nat) : (a.add k).block = a.block := by unfold Addr.add; split <;> rfl
theorem take_end {s : St} {n : Nat} {out hd : List Int} {l : List (List Int)} {X : List Int × List Int × List (List Int)} (h : tk s.l s.hd n = (out ++ X.1, X.2)) (hX : X = ([], hd, l)) : s.goes n = out ∧ s.take n = { s with hd := hd, l := l } := by
  subst hX
  simp [St.goes, St.take, h]
theorem news_of_q {w : World} {base e n c : Nat} {A : Option Addr} {bs : List Int} (h : QRow w base e 1 (.slice A n c) n (u8s bs)) (k : Nat) (hk : k ≤ n) : News w 1 A k (u8s (bs.take k)) := by
  have hq := q_take h hk
  rw [Nat.mul_one] at hq
  have hl := hq.1
  refine ⟨by simpa [u8s] using hl, fun u hu => ?_, fun h0 => ?_⟩
  · obtain ⟨x, _, rfl⟩ := List.mem_map.1 hu; rfl
  · obtain ⟨ad, hA, hc⟩ := q_cells hq h0
    exact ⟨ad, hA, fun j u hu => hc j u (by simpa [u8s, List.map_take] using hu)⟩

attribute [local go_sem] min2_int min_two

set_option maxHeartbeats 16000000 in
theorem take_c {w : World} {B p : Nat} {s : St} {own : Nat → Prop} (h : QS w B p s own) (n : Nat) (hn : 0 < n ∧ n ≤ 1048576) (hB : B ≤ w.heap.size) :
    Calls Try.prog 11 #[.pointer (some ⟨p, 0, none⟩), .int .i64 (n : Int)] w (TakePost w B p s own n) := by
  obtain ⟨hv, lv, vs, h⟩ := h
  have d1 : decide ((n : Int) ≤ 0) = false := by simp; omega
  have d2 : decide (n ≤ 0) = false := decide_eq_false (by omega)
  have hn0 : ¬ n = 0 := by omega
  have HST := Aside0.mk (⟨[], s.hd, s.l, hv, lv, vs, by simpa [u8s] using q_nil w w.heap.size 5, h, But.refl _ _, by simp, by simp, by simp⟩ : TakeRel w B p s own n (s.l.length + n) (.slice none 0 0) w)
  have HOWN := Aside0.mk h.lt
  clear h
  go_enter Try.func11, Try.ntmps11
  go_wp2_with fail
  go_loopg [5] (s.l.length + n) (fun d v wr => TakeRel w B p s own n d v wr)
  case atStart => exact HST.out
  case round =>
    clear HST
    obtain ⟨out, hd, l, hv, lv, vs, hout, h, hbut, hle, hd1, htk⟩ := hrel
    obtain ⟨Ao, ko, rfl, hko⟩ := q_slice hout
    obtain ⟨Ah, kh, rfl, hkh⟩ := q_slice h.hq
    obtain ⟨Al, kl, rfl, hkl⟩ := q_slice h.lq
    obtain ⟨c0, c1, c2, c3, c4, cf⟩ := h.hp.five
    by_cases hlt : out.length < n
    · have e1 : decide ((out.length : Int) < (n : Int)) = true := by simp; omega
      have e2 : decide (out.length < n) = true := decide_eq_true hlt
      have H := Aside0.mk (And.intro hout (And.intro h (And.intro hbut htk)))
      clear hout h hbut htk
      by_cases hh : hd.length = 0
      · have e3 : ((hd.length : Int) == 0) = true := by simp [hh]
        by_cases hll : l.length = 0
        · have e4 : ((l.length : Int) == 0) = true := by simp [hll]
          have hl0 : l = [] := List.eq_nil_of_length_eq_zero hll
          have hh0 : hd = [] := List.eq_nil_of_length_eq_zero hh
          obtain ⟨g1, g2⟩ := take_end (hd := hd) (l := l) H.out.2.2.2 (by rw [hl0, hh0]; exact tk_none _)
          go_wp2_with fail
          refine bodyPost_ret (v := .slice Ao out.length ko) (by simp [results, Try.results11, go_sem, *]) rfl ⟨_, rfl, ?_, ?_, H.out.2.2.1⟩
          · rw [g1]; exact H.out.1
          · rw [g2]; exact ⟨_, _, _, H.out.2.1⟩
        · have e4 : ((l.length : Int) == 0) = false := by rw [beq_eq_false_iff_ne]; omega
          obtain ⟨b, r, rfl⟩ : ∃ b r, l = b :: r := by cases l with | nil => simp at hll | cons b r => exact ⟨b, r, rfl⟩
          obtain ⟨v0, vr, rfl⟩ : ∃ v0 vr, vs = v0 :: vr := by
            have := H.out.2.1.vlen
            cases vs with
            | nil => simp at this
            | cons v0 vr => exact ⟨v0, vr, rfl⟩
          obtain ⟨g, o, rfl, _, hcl, _, _⟩ := q_open H.out.2.1.lq (by simp)
          have x0 := (hcl 0 (by simp)).trans (show _ = some v0 from rfl)
          rw [Nat.add_zero] at x0
          have hqd := q_drop H.out.2.1.lq (k := 1) (by simp)
          obtain ⟨Av, kv, rfl, hkv⟩ := q_slice (H.out.2.1.pk 0 v0 b rfl rfl)
          have HQD := Aside0.mk hqd
          clear hcl hqd
          rw [List.length_cons] at c1 hd1 e4 hkl
          by_cases hk1 : kl = 1
          · subst hk1
            have hr0 : r = [] := List.eq_nil_of_length_eq_zero (by omega)
            subst hr0
            have hv0 : vr = [] := List.eq_nil_of_length_eq_zero (by simpa using H.out.2.1.vlen)
            subst hv0
            go_wp2_with fail
            go_region
            obtain ⟨w2, hw2⟩ : ∃ w2, ((wr.setCell ⟨p, 0, none⟩ (.slice Av b.length kv)).setCell ⟨p, 1, none⟩ (.slice (some ⟨g, o, none⟩) 0 0)).drew = w2 := ⟨_, rfl⟩
            rw [hw2]
            have h2 : QAt w2 B p b [] s.most s.drops s.lost own (.slice Av b.length kv) (.slice (some ⟨g, o, none⟩) 0 0) [] ∧ But own w w2 ∧ QRow w2 w.heap.size 5 1 (.slice Ao out.length ko) out.length (u8s out) ∧ tk s.l s.hd n = (out ++ (tk [] b (n - out.length)).1, (tk [] b (n - out.length)).2) := by
              have hop := H.out.2.1.op
              have hq1 : QRow wr B 32 1 (.slice (some ⟨g, o, none⟩) 0 0 ) 0 [] := by simpa using HQD.out
              rw [← hw2]
              refine ⟨(H.out.2.1.nexted hq1 (fun k hk => by simpa [Value.ownBlock] using hk)).below ((Below.refl _ _).drew), ((H.out.2.2.1.set (.inr hop) _).set (.inr hop) _).drew, q_move (q_far (q_far H.out.1 (typed_ne H.out.1 H.out.2.1.hp (by decide)) _) (typed_ne H.out.1 H.out.2.1.hp (by decide)) _) (fun _ _ => rfl), ?_⟩
              have hh0 : hd = [] := List.eq_nil_of_length_eq_zero hh
              rw [H.out.2.2.2, hh0, tk_next _ _ _ (by omega)]
            have H2 := Aside0.mk h2
            have hms : 0 + (n - out.length) < gk := by omega
            clear hw2 x0 c0 c1 c2 c3 c4 cf
            obtain ⟨c0, c1, c2, c3, c4, cf⟩ := h2.1.hp.five
            clear h2
            obtain ⟨M, hM, hMn⟩ : ∃ M : Nat, (n : Int) - (out.length : Int) = (M : Int) ∧ M = n - out.length := ⟨n - out.length, by omega, rfl⟩
            have HMN := Aside0.mk hMn
            clear hMn
            have htkc := fun k h1 h2 => tk_chunk ([] : List (List Int)) b (n - out.length) k h1 h2
            have hown := HOWN.out
            by_cases hx : b.length < M
            · have hx1 : (b.length : Int) < (M : Int) := by omega
              go_wp2_with (at_builtin; refine wpList_append_q T32 _ rfl _ _ rfl w.heap.size (.slice Ao out.length ko) out.length (u8s out) rfl ?c0 _ b.length _ (u8s (b.take (b.length))) rfl ?c1 ?c2 ?c3 ?c4 ?_)
              case c0 => exact H2.out.2.2.1
              case c1 => exact news_of_q H2.out.1.hq (b.length) (by omega)
              case c2 => unfold maxLen; omega
              case c3 => omega
              case c4 => have := H2.out.2.1.size; omega
              rintro v3 w3 ⟨hq3, hg3, hat3, _⟩
              have hq3' : QRow w3 w.heap.size 5 1 v3 (out ++ b.take (b.length)).length (u8s (out ++ b.take (b.length))) := by
                have hl : (out ++ b.take (b.length)).length = out.length + b.length := by rw [List.length_append, List.length_take, Nat.min_eq_left (by omega)]
                rw [hl]; simpa [u8s] using hq3
              have hb23 : But (fun b => w.heap.size ≤ b) w2 w3 := (But.refl _ _).grown hg3 (fun k hk => .inr (q_typed H2.out.2.2.1 k hk).1)
              have h3 := H2.out.1.but hb23 (fun b hb hb' => by have := (hown b hb).2; omega)
              have hbw3 : But own w w3 := H2.out.2.1.grown hg3 (fun k hk => .inl (q_typed H2.out.2.2.1 k hk).1)
              obtain ⟨A3, k3, rfl, hk3⟩ := q_slice hq3
              clear c0 c1 c2 c3 c4 cf
              obtain ⟨c0, c1, c2, c3, c4, cf⟩ := h3.hp.five
              have hqd := q_drop h3.hq (k := b.length) (by omega)
              have H3 := Aside0.mk (And.intro h3 (And.intro hbw3 (And.intro hq3' hqd)))
              clear h3 hbw3 hq3' hqd hq3 hg3 hat3 hb23
              go_wp2_with fail
              all_goals
                go_roundg (([] : List (List Int)).length + (n - (out.length + b.length)))
                case measure => have := HMN.out; omega
                case rel =>
                  have hqd := H3.out.2.2.2
                  have hl : (b.drop (b.length)).length = b.length - b.length := List.length_drop
                  refine ⟨out ++ b.take (b.length), b.drop (b.length), ([] : List (List Int)), _, _, _, q_far H3.out.2.2.1 (typed_ne H3.out.2.2.1 H3.out.1.hp (by decide)) _, H3.out.1.headed ?_ ?_, H3.out.2.1.set (.inr H3.out.1.op) _, ?_, ?_, ?_⟩
                  · rw [hl]; simpa [u8s, ← List.map_drop, *] using hqd
                  · intro k hk; revert hk; cases Av <;> simp [Value.ownBlock, addr_block]
                  · rw [List.length_append, List.length_take, Nat.min_eq_left (by omega)]; have := HMN.out; omega
                  · rw [List.length_append, List.length_take, Nat.min_eq_left (by omega)]
                  · rw [H2.out.2.2.2, htkc (b.length) (by omega) (by have := HMN.out; omega), List.length_append, List.length_take, Nat.min_eq_left (by omega), Nat.sub_sub]; simp
            · have hx1 : ¬ ((b.length : Int) < (M : Int)) := by omega
              go_wp2_with (at_builtin; refine wpList_append_q T32 _ rfl _ _ rfl w.heap.size (.slice Ao out.length ko) out.length (u8s out) rfl ?c0 _ M _ (u8s (b.take (M))) rfl ?c1 ?c2 ?c3 ?c4 ?_)
              case c0 => exact H2.out.2.2.1
              case c1 => exact news_of_q H2.out.1.hq (M) (by omega)
              case c2 => unfold maxLen; omega
              case c3 => omega
              case c4 => have := H2.out.2.1.size; omega
              rintro v3 w3 ⟨hq3, hg3, hat3, _⟩
              have hq3' : QRow w3 w.heap.size 5 1 v3 (out ++ b.take (M)).length (u8s (out ++ b.take (M))) := by
                have hl : (out ++ b.take (M)).length = out.length + M := by rw [List.length_append, List.length_take, Nat.min_eq_left (by omega)]
                rw [hl]; simpa [u8s] using hq3
              have hb23 : But (fun b => w.heap.size ≤ b) w2 w3 := (But.refl _ _).grown hg3 (fun k hk => .inr (q_typed H2.out.2.2.1 k hk).1)
              have h3 := H2.out.1.but hb23 (fun b hb hb' => by have := (hown b hb).2; omega)
              have hbw3 : But own w w3 := H2.out.2.1.grown hg3 (fun k hk => .inl (q_typed H2.out.2.2.1 k hk).1)
              obtain ⟨A3, k3, rfl, hk3⟩ := q_slice hq3
              clear c0 c1 c2 c3 c4 cf
              obtain ⟨c0, c1, c2, c3, c4, cf⟩ := h3.hp.five
              have hqd := q_drop h3.hq (k := M) (by omega)
              have H3 := Aside0.mk (And.intro h3 (And.intro hbw3 (And.intro hq3' hqd)))
              clear h3 hbw3 hq3' hqd hq3 hg3 hat3 hb23
              go_wp2_with fail
              all_goals
                go_roundg (([] : List (List Int)).length + (n - (out.length + M)))
                case measure => have := HMN.out; omega
                case rel =>
                  have hqd := H3.out.2.2.2
                  have hl : (b.drop (M)).length = b.length - M := List.length_drop
                  refine ⟨out ++ b.take (M), b.drop (M), ([] : List (List Int)), _, _, _, q_far H3.out.2.2.1 (typed_ne H3.out.2.2.1 H3.out.1.hp (by decide)) _, H3.out.1.headed ?_ ?_, H3.out.2.1.set (.inr H3.out.1.op) _, ?_, ?_, ?_⟩
                  · rw [hl]; simpa [u8s, ← List.map_drop, *] using hqd
                  · intro k hk; revert hk; cases Av <;> simp [Value.ownBlock, addr_block]
                  · rw [List.length_append, List.length_take, Nat.min_eq_left (by omega)]; have := HMN.out; omega
                  · rw [List.length_append, List.length_take, Nat.min_eq_left (by omega)]
                  · rw [H2.out.2.2.2, htkc (M) (by omega) (by have := HMN.out; omega), List.length_append, List.length_take, Nat.min_eq_left (by omega), Nat.sub_sub]; simp
          · go_wp2_with fail
            go_region
            obtain ⟨w2, hw2⟩ : ∃ w2, ((wr.setCell ⟨p, 0, none⟩ (.slice Av b.length kv)).setCell ⟨p, 1, none⟩ (.slice (some ⟨g, o + 1, none⟩) r.length (kl - 1))).drew = w2 := ⟨_, rfl⟩
            rw [hw2]
            have h2 : QAt w2 B p b r s.most s.drops s.lost own (.slice Av b.length kv) (.slice (some ⟨g, o + 1, none⟩) r.length (kl - 1)) vr ∧ But own w w2 ∧ QRow w2 w.heap.size 5 1 (.slice Ao out.length ko) out.length (u8s out) ∧ tk s.l s.hd n = (out ++ (tk r b (n - out.length)).1, (tk r b (n - out.length)).2) := by
              have hop := H.out.2.1.op
              have hq1 : QRow wr B 32 1 (.slice (some ⟨g, o + 1, none⟩) r.length (kl - 1)) r.length vr := by simpa [hk1, add_at] using HQD.out
              rw [← hw2]
              refine ⟨(H.out.2.1.nexted hq1 (fun k hk => by simpa [Value.ownBlock] using hk)).below ((Below.refl _ _).drew), ((H.out.2.2.1.set (.inr hop) _).set (.inr hop) _).drew, q_move (q_far (q_far H.out.1 (typed_ne H.out.1 H.out.2.1.hp (by decide)) _) (typed_ne H.out.1 H.out.2.1.hp (by decide)) _) (fun _ _ => rfl), ?_⟩
              have hh0 : hd = [] := List.eq_nil_of_length_eq_zero hh
              rw [H.out.2.2.2, hh0, tk_next _ _ _ (by omega)]
            have H2 := Aside0.mk h2
            have hms : r.length + (n - out.length) < gk := by omega
            clear hw2 x0 c0 c1 c2 c3 c4 cf
            obtain ⟨c0, c1, c2, c3, c4, cf⟩ := h2.1.hp.five
            clear h2
            obtain ⟨M, hM, hMn⟩ : ∃ M : Nat, (n : Int) - (out.length : Int) = (M : Int) ∧ M = n - out.length := ⟨n - out.length, by omega, rfl⟩
            have HMN := Aside0.mk hMn
            clear hMn
            have htkc := fun k h1 h2 => tk_chunk r b (n - out.length) k h1 h2
            have hown := HOWN.out
            by_cases hx : b.length < M
            · have hx1 : (b.length : Int) < (M : Int) := by omega
              go_wp2_with (at_builtin; refine wpList_append_q T32 _ rfl _ _ rfl w.heap.size (.slice Ao out.length ko) out.length (u8s out) rfl ?c0 _ b.length _ (u8s (b.take (b.length))) rfl ?c1 ?c2 ?c3 ?c4 ?_)
              case c0 => exact H2.out.2.2.1
              case c1 => exact news_of_q H2.out.1.hq (b.length) (by omega)
              case c2 => unfold maxLen; omega
              case c3 => omega
              case c4 => have := H2.out.2.1.size; omega
              rintro v3 w3 ⟨hq3, hg3, hat3, _⟩
              have hq3' : QRow w3 w.heap.size 5 1 v3 (out ++ b.take (b.length)).length (u8s (out ++ b.take (b.length))) := by
                have hl : (out ++ b.take (b.length)).length = out.length + b.length := by rw [List.length_append, List.length_take, Nat.min_eq_left (by omega)]
                rw [hl]; simpa [u8s] using hq3
              have hb23 : But (fun b => w.heap.size ≤ b) w2 w3 := (But.refl _ _).grown hg3 (fun k hk => .inr (q_typed H2.out.2.2.1 k hk).1)
              have h3 := H2.out.1.but hb23 (fun b hb hb' => by have := (hown b hb).2; omega)
              have hbw3 : But own w w3 := H2.out.2.1.grown hg3 (fun k hk => .inl (q_typed H2.out.2.2.1 k hk).1)
              obtain ⟨A3, k3, rfl, hk3⟩ := q_slice hq3
              clear c0 c1 c2 c3 c4 cf
              obtain ⟨c0, c1, c2, c3, c4, cf⟩ := h3.hp.five
              have hqd := q_drop h3.hq (k := b.length) (by omega)
              have H3 := Aside0.mk (And.intro h3 (And.intro hbw3 (And.intro hq3' hqd)))
              clear h3 hbw3 hq3' hqd hq3 hg3 hat3 hb23
              go_wp2_with fail
              all_goals
                go_roundg (r.length + (n - (out.length + b.length)))
                case measure => have := HMN.out; omega
                case rel =>
                  have hqd := H3.out.2.2.2
                  have hl : (b.drop (b.length)).length = b.length - b.length := List.length_drop
                  refine ⟨out ++ b.take (b.length), b.drop (b.length), r, _, _, _, q_far H3.out.2.2.1 (typed_ne H3.out.2.2.1 H3.out.1.hp (by decide)) _, H3.out.1.headed ?_ ?_, H3.out.2.1.set (.inr H3.out.1.op) _, ?_, ?_, ?_⟩
                  · rw [hl]; simpa [u8s, ← List.map_drop, *] using hqd
                  · intro k hk; revert hk; cases Av <;> simp [Value.ownBlock, addr_block]
                  · rw [List.length_append, List.length_take, Nat.min_eq_left (by omega)]; have := HMN.out; omega
                  · rw [List.length_append, List.length_take, Nat.min_eq_left (by omega)]
                  · rw [H2.out.2.2.2, htkc (b.length) (by omega) (by have := HMN.out; omega), List.length_append, List.length_take, Nat.min_eq_left (by omega), Nat.sub_sub]; simp
            · have hx1 : ¬ ((b.length : Int) < (M : Int)) := by omega
              go_wp2_with (at_builtin; refine wpList_append_q T32 _ rfl _ _ rfl w.heap.size (.slice Ao out.length ko) out.length (u8s out) rfl ?c0 _ M _ (u8s (b.take (M))) rfl ?c1 ?c2 ?c3 ?c4 ?_)
              case c0 => exact H2.out.2.2.1
              case c1 => exact news_of_q H2.out.1.hq (M) (by omega)
              case c2 => unfold maxLen; omega
              case c3 => omega
              case c4 => have := H2.out.2.1.size; omega
              rintro v3 w3 ⟨hq3, hg3, hat3, _⟩
              have hq3' : QRow w3 w.heap.size 5 1 v3 (out ++ b.take (M)).length (u8s (out ++ b.take (M))) := by
                have hl : (out ++ b.take (M)).length = out.length + M := by rw [List.length_append, List.length_take, Nat.min_eq_left (by omega)]
                rw [hl]; simpa [u8s] using hq3
              have hb23 : But (fun b => w.heap.size ≤ b) w2 w3 := (But.refl _ _).grown hg3 (fun k hk => .inr (q_typed H2.out.2.2.1 k hk).1)
              have h3 := H2.out.1.but hb23 (fun b hb hb' => by have := (hown b hb).2; omega)
              have hbw3 : But own w w3 := H2.out.2.1.grown hg3 (fun k hk => .inl (q_typed H2.out.2.2.1 k hk).1)
              obtain ⟨A3, k3, rfl, hk3⟩ := q_slice hq3
              clear c0 c1 c2 c3 c4 cf
              obtain ⟨c0, c1, c2, c3, c4, cf⟩ := h3.hp.five
              have hqd := q_drop h3.hq (k := M) (by omega)
              have H3 := Aside0.mk (And.intro h3 (And.intro hbw3 (And.intro hq3' hqd)))
              clear h3 hbw3 hq3' hqd hq3 hg3 hat3 hb23
              go_wp2_with fail
              all_goals
                go_roundg (r.length + (n - (out.length + M)))
                case measure => have := HMN.out; omega
                case rel =>
                  have hqd := H3.out.2.2.2
                  have hl : (b.drop (M)).length = b.length - M := List.length_drop
                  refine ⟨out ++ b.take (M), b.drop (M), r, _, _, _, q_far H3.out.2.2.1 (typed_ne H3.out.2.2.1 H3.out.1.hp (by decide)) _, H3.out.1.headed ?_ ?_, H3.out.2.1.set (.inr H3.out.1.op) _, ?_, ?_, ?_⟩
                  · rw [hl]; simpa [u8s, ← List.map_drop, *] using hqd
                  · intro k hk; revert hk; cases Av <;> simp [Value.ownBlock, addr_block]
                  · rw [List.length_append, List.length_take, Nat.min_eq_left (by omega)]; have := HMN.out; omega
                  · rw [List.length_append, List.length_take, Nat.min_eq_left (by omega)]
                  · rw [H2.out.2.2.2, htkc (M) (by omega) (by have := HMN.out; omega), List.length_append, List.length_take, Nat.min_eq_left (by omega), Nat.sub_sub]; simp
      · have e3 : ((hd.length : Int) == 0) = false := by rw [beq_eq_false_iff_ne]; omega
        have H2 := Aside0.mk (And.intro H.out.2.1 (And.intro H.out.2.2.1 (And.intro H.out.1 H.out.2.2.2)))
        obtain ⟨M, hM, hMn⟩ : ∃ M : Nat, (n : Int) - (out.length : Int) = (M : Int) ∧ M = n - out.length := ⟨n - out.length, by omega, rfl⟩
        have HMN := Aside0.mk hMn
        clear hMn
        have htkc := fun k h1 h2 => tk_chunk l hd (n - out.length) k h1 h2
        have hown := HOWN.out
        by_cases hx : hd.length < M
        · have hx1 : (hd.length : Int) < (M : Int) := by omega
          go_wp2_with (at_builtin; refine wpList_append_q T32 _ rfl _ _ rfl w.heap.size (.slice Ao out.length ko) out.length (u8s out) rfl ?c0 _ hd.length _ (u8s (hd.take (hd.length))) rfl ?c1 ?c2 ?c3 ?c4 ?_)
          case c0 => exact H2.out.2.2.1
          case c1 => exact news_of_q H2.out.1.hq (hd.length) (by omega)
          case c2 => unfold maxLen; omega
          case c3 => omega
          case c4 => have := H2.out.2.1.size; omega
          rintro v3 w3 ⟨hq3, hg3, hat3, _⟩
          have hq3' : QRow w3 w.heap.size 5 1 v3 (out ++ hd.take (hd.length)).length (u8s (out ++ hd.take (hd.length))) := by
            have hl : (out ++ hd.take (hd.length)).length = out.length + hd.length := by rw [List.length_append, List.length_take, Nat.min_eq_left (by omega)]
            rw [hl]; simpa [u8s] using hq3
          have hb23 : But (fun b => w.heap.size ≤ b) wr w3 := (But.refl _ _).grown hg3 (fun k hk => .inr (q_typed H2.out.2.2.1 k hk).1)
          have h3 := H2.out.1.but hb23 (fun b hb hb' => by have := (hown b hb).2; omega)
          have hbw3 : But own w w3 := H2.out.2.1.grown hg3 (fun k hk => .inl (q_typed H2.out.2.2.1 k hk).1)
          obtain ⟨A3, k3, rfl, hk3⟩ := q_slice hq3
          clear c0 c1 c2 c3 c4 cf
          obtain ⟨c0, c1, c2, c3, c4, cf⟩ := h3.hp.five
          have hqd := q_drop h3.hq (k := hd.length) (by omega)
          have H3 := Aside0.mk (And.intro h3 (And.intro hbw3 (And.intro hq3' hqd)))
          clear h3 hbw3 hq3' hqd hq3 hg3 hat3 hb23
          go_wp2_with fail
          all_goals
            go_roundg (l.length + (n - (out.length + hd.length)))
            case measure => have := HMN.out; omega
            case rel =>
              have hqd := H3.out.2.2.2
              have hl : (hd.drop (hd.length)).length = hd.length - hd.length := List.length_drop
              refine ⟨out ++ hd.take (hd.length), hd.drop (hd.length), l, _, _, _, q_far H3.out.2.2.1 (typed_ne H3.out.2.2.1 H3.out.1.hp (by decide)) _, H3.out.1.headed ?_ ?_, H3.out.2.1.set (.inr H3.out.1.op) _, ?_, ?_, ?_⟩
              · rw [hl]; simpa [u8s, ← List.map_drop, *] using hqd
              · intro k hk; revert hk; cases Ah <;> simp [Value.ownBlock, addr_block]
              · rw [List.length_append, List.length_take, Nat.min_eq_left (by omega)]; have := HMN.out; omega
              · rw [List.length_append, List.length_take, Nat.min_eq_left (by omega)]
              · rw [H2.out.2.2.2, htkc (hd.length) (by omega) (by have := HMN.out; omega), List.length_append, List.length_take, Nat.min_eq_left (by omega), Nat.sub_sub]; simp
        · have hx1 : ¬ ((hd.length : Int) < (M : Int)) := by omega
          go_wp2_with (at_builtin; refine wpList_append_q T32 _ rfl _ _ rfl w.heap.size (.slice Ao out.length ko) out.length (u8s out) rfl ?c0 _ M _ (u8s (hd.take (M))) rfl ?c1 ?c2 ?c3 ?c4 ?_)
          case c0 => exact H2.out.2.2.1
          case c1 => exact news_of_q H2.out.1.hq (M) (by omega)
          case c2 => unfold maxLen; omega
          case c3 => omega
          case c4 => have := H2.out.2.1.size; omega
          rintro v3 w3 ⟨hq3, hg3, hat3, _⟩
          have hq3' : QRow w3 w.heap.size 5 1 v3 (out ++ hd.take (M)).length (u8s (out ++ hd.take (M))) := by
            have hl : (out ++ hd.take (M)).length = out.length + M := by rw [List.length_append, List.length_take, Nat.min_eq_left (by omega)]
            rw [hl]; simpa [u8s] using hq3
          have hb23 : But (fun b => w.heap.size ≤ b) wr w3 := (But.refl _ _).grown hg3 (fun k hk => .inr (q_typed H2.out.2.2.1 k hk).1)
          have h3 := H2.out.1.but hb23 (fun b hb hb' => by have := (hown b hb).2; omega)
          have hbw3 : But own w w3 := H2.out.2.1.grown hg3 (fun k hk => .inl (q_typed H2.out.2.2.1 k hk).1)
          obtain ⟨A3, k3, rfl, hk3⟩ := q_slice hq3
          clear c0 c1 c2 c3 c4 cf
          obtain ⟨c0, c1, c2, c3, c4, cf⟩ := h3.hp.five
          have hqd := q_drop h3.hq (k := M) (by omega)
          have H3 := Aside0.mk (And.intro h3 (And.intro hbw3 (And.intro hq3' hqd)))
          clear h3 hbw3 hq3' hqd hq3 hg3 hat3 hb23
          go_wp2_with fail
          all_goals
            go_roundg (l.length + (n - (out.length + M)))
            case measure => have := HMN.out; omega
            case rel =>
              have hqd := H3.out.2.2.2
              have hl : (hd.drop (M)).length = hd.length - M := List.length_drop
              refine ⟨out ++ hd.take (M), hd.drop (M), l, _, _, _, q_far H3.out.2.2.1 (typed_ne H3.out.2.2.1 H3.out.1.hp (by decide)) _, H3.out.1.headed ?_ ?_, H3.out.2.1.set (.inr H3.out.1.op) _, ?_, ?_, ?_⟩
              · rw [hl]; simpa [u8s, ← List.map_drop, *] using hqd
              · intro k hk; revert hk; cases Ah <;> simp [Value.ownBlock, addr_block]
              · rw [List.length_append, List.length_take, Nat.min_eq_left (by omega)]; have := HMN.out; omega
              · rw [List.length_append, List.length_take, Nat.min_eq_left (by omega)]
              · rw [H2.out.2.2.2, htkc (M) (by omega) (by have := HMN.out; omega), List.length_append, List.length_take, Nat.min_eq_left (by omega), Nat.sub_sub]; simp
    · have e1 : decide ((out.length : Int) < (n : Int)) = false := by simp; omega
      have e2 : decide (out.length < n) = false := decide_eq_false hlt
      have H := Aside0.mk (And.intro hout (And.intro h (And.intro hbut htk)))
      clear hout h hbut htk
      obtain ⟨g1, g2⟩ := take_end (hd := hd) (l := l) H.out.2.2.2 (by rw [show n - out.length = 0 by omega]; exact tk_zero _ _)
      go_wp2_with fail
      refine bodyPost_ret (v := .slice Ao out.length ko) (by simp [results, Try.results11, go_sem, *]) rfl ⟨_, rfl, ?_, ?_, H.out.2.2.1⟩
      · rw [g1]; exact H.out.1
      · rw [g2]; exact ⟨_, _, _, H.out.2.1⟩
end Go.Proofs.Ytdfpfchkiogkgaa.Own
