/-
  The walk of QueueActs: whatever the input, it returns true, and nothing that was there before the call has changed.
-/
import Derived.Test.YtdfpfchkiogkgaaSound
import Derived.Deep.DeepCutAuto
set_option linter.unusedVariables false
set_option linter.unusedSimpArgs false
namespace Go.Proofs.Ytdfpfchkiogkgaa.Own
open Go.RowKit Go.Proofs.YtdfpfchkiogkgaaW.PrintWords Go.Proofs.YtdfpfchkiogkgaaW.PrintMore Go.Proofs.Ytdfpfchkiogkgaa.H

/-- The queue at block B and the model at block m hold the same. -/
structure Two (w : World) (B m : Nat) (s : St) (own mo : Nat → Prop) : Prop where
  q : QS w B B s own
  m : MS w B m s mo
  ap : ∀ b, own b → ¬ mo b

/-- At the head of the law's great loop: i acts were done. -/
def ActsRel (w : World) (len B m n : Nat) (d : Nat) (v : Value) (wr : World) : Prop :=
  ∃ (i : Nat) (s : St) (own mo : Nat → Prop), v = .int .i64 (i : Int) ∧ i + d = len ∧ Two wr B m s own mo ∧ Sound n i s ∧ Below w.heap.size w wr

theorem Two.below {w w1 : World} {B m : Nat} {s : St} {own mo : Nat → Prop} (h : Two w B m s own mo) (hb : Below w.heap.size w w1) : Two w1 B m s own mo :=
  ⟨h.q.below hb, h.m.below hb, h.ap⟩
theorem Two.start {w2 : World} {B n : Nat} {own : Nat → Prop} (hq : QS w2 B B ⟨[], [], n, true, 0⟩ own) (hB : B ≤ w2.heap.size) :
    Two (w2.alloc (.cells #[.slice none 0 0, .slice none 0 0, .int .i64 (n : Int), .bool true, .int .i64 0] 41)) B w2.heap.size ⟨[], [], n, true, 0⟩ own (fun b => b = w2.heap.size) := by
  refine ⟨hq.below ((Below.refl _ w2).alloc (Nat.le_refl _) _), ⟨.slice none 0 0, .slice none 0 0, [], ⟨Has.new w2 41 [_, _, _, _, _], ⟨none, 0, rfl, by simp, ⟨by simp [u8s], by simp [u8s], by simp⟩, by simp⟩, q_nil _ _ _, fun i v bs hi => by simp at hi, rfl, fun k hk => by simp [Value.ownBlock] at hk, ?_⟩⟩, fun b hb he => ?_⟩
  · intro b hb; subst hb; simp; exact hB
  · have := (hq.lt b hb).2; omega

theorem Two.le {w : World} {B m : Nat} {s : St} {own mo : Nat → Prop} (h : Two w B m s own mo) : B ≤ w.heap.size := by
  obtain ⟨_, _, _, h⟩ := h.m
  have := h.lt m h.op; omega

/-- Behind the act: the queue and the model have done it; the bytes of one's own lie apart. -/
def After (w : World) (B m n i : Nat) (vo : Value) (bs : List Int) (wx : World) : Prop :=
  ∃ (s : St) (own mo : Nat → Prop), Two wx B m s own mo ∧ Sound n i s ∧ Below w.heap.size w wx ∧ QRow wx B 5 1 vo bs.length (u8s bs) ∧ ∀ k, vo.ownBlock = some k → ¬ own k ∧ ¬ mo k
theorem QS.grown {w0 w : World} {B p : Nat} {s : St} {own : Nat → Prop} (h : QS w B p s own) (hsz : w0.heap.size ≤ w.heap.size) (hB : B ≤ w0.heap.size) : QS w B p s (grow own w0 w) := by
  obtain ⟨hv, lv, vs, h⟩ := h
  exact ⟨hv, lv, vs, h.wide (fun b hb => .inl hb) (fun b hb => by
    rcases hb with hb | hb
    · exact h.lt b hb
    · exact ⟨by omega, hb.2⟩)⟩
theorem Two.mid {w w5 : World} {B m : Nat} {s : St} {own mo : Nat → Prop} (h : Two w B m s own mo) (hb : But own w w5) : MS w5 B m s mo :=
  h.m.but hb (fun b _ h1 h2 => by
    rcases h1 with h1 | h1
    · have := (h.q.lt b h2).1; omega
    · exact h.ap b h2 h1)
theorem After.make {w w4 w5 w6 : World} {B m n i : Nat} {s s' : St} {own mo : Nat → Prop} {vo : Value} {bs : List Int} (ht : Two w4 B m s own mo) (hvo : QRow w4 B 5 1 vo bs.length (u8s bs)) (hd : ∀ k, vo.ownBlock = some k → ¬ own k ∧ ¬ mo k)
    (hb : Below w.heap.size w w4) (hB : w.heap.size ≤ B) (hq5 : QS w5 B B s' (grow own w4 w5)) (hb5 : But own w4 w5) (hm6 : MS w6 B m s' (grow mo w5 w6)) (hb6 : But mo w5 w6) (hs : Sound n i s') : After w B m n i vo bs w6 := by
  have h54 := hb5.size
  have hmlt := ht.m.lt
  have hqlt := ht.q.lt
  have hBw := ht.le
  refine ⟨s', grow own w4 w5, grow mo w5 w6, ⟨?_, hm6, ?_⟩, hs, ?_, ?_, ?_⟩
  · refine Q.but hq5 hb6 (fun b h1 h2 => ?_)
    have h3 := hmlt b h2
    rcases h1 with h1 | h1
    · exact ht.ap b h1 h2
    · omega
  · intro b h1 h2
    rcases h1 with h1 | h1 <;> rcases h2 with h2 | h2
    · exact ht.ap b h1 h2
    · have := hqlt b h1; omega
    · have := hmlt b h2; omega
    · omega
  · have hb5' := hb.trans (hb5.below hb.size (fun k hk => by have := hqlt k hk; omega))
    exact hb5'.trans (hb6.below hb5'.size (fun k hk => by have := hmlt k hk; omega))
  · exact q_but (q_but hvo hb5 (fun k hk => (hd k hk).1)) hb6 (fun k hk => (hd k hk).2)
  · intro k hk
    have h1 := hd k hk
    have h2 := q_lt hvo k hk
    refine ⟨fun h => ?_, fun h => ?_⟩
    · rcases h with h | h
      · exact h1.1 h
      · omega
    · rcases h with h | h
      · exact h1.2 h
      · omega
/-- Bytes that are said: the model's head becomes a fresh copy with them behind it. -/
theorem MAt.said {w w8 : World} {B m n : Nat} {s : St} {mo : Nat → Prop} {hv lv v8 : Value} {vs : List Value} {bs : List Int} (h : MAt w B m s mo hv lv vs) (hn : n = s.hd.length + bs.length) (hq8 : QRow w8 B 5 1 v8 n (u8s s.hd ++ u8s bs)) (hb8 : Below w.heap.size w w8) (hnew : ∀ k, v8.ownBlock = some k → w.heap.size ≤ k) :
    MS (w8.setCell ⟨m, 0, none⟩ v8) B m (s.say bs) (grow mo w (w8.setCell ⟨m, 0, none⟩ v8)) ∧ But mo w (w8.setCell ⟨m, 0, none⟩ v8) := by
  have hn : n = (s.hd ++ bs).length := by simp [hn]
  subst hn
  rw [show u8s s.hd ++ u8s bs = u8s (s.hd ++ bs) by simp [u8s]] at hq8
  have hmlt := (h.lt m h.op).2
  have hs8 := hb8.size
  have mv : ∀ k, k < w.heap.size → (k < B ∨ mo k) → k ≠ m → lv.ownBlock ≠ some k → (w8.setCell ⟨m, 0, none⟩ v8).heap[k]? = w.heap[k]? := fun k hk _ h1 _ => by
    rw [Below.heap_setCell _ _ _ k h1]; exact hb8.block k hk
  have hne : ∀ k, v8.ownBlock = some k → k ≠ m := fun k hk => by have := hnew k hk; omega
  have hq9 := q_far hq8 (p := ⟨m, 0, none⟩) hne v8
  refine ⟨⟨v8, lv, vs, ⟨(h.hp.below hb8 hmlt).set 0 _, ?_, q_move h.lq (fun k hk => by rw [Below.heap_setCell _ _ _ k (h.lne k hk)]; exact hb8.block k (q_lt h.lq k hk)), fun i v bs hi hbs => ((h.pk i v bs hi hbs).move mv).as (fun _ h => .inl h) (fun _ _ _ h => h), .inl h.op, fun k hk => .inl (h.ol k hk), ?_⟩⟩, ?_⟩
  · obtain ⟨A, c, rfl, hc⟩ := q_slice hq9
    have hnw := news_of_q hq9 (s.hd ++ bs).length (Nat.le_refl _)
    rw [List.take_length] at hnw
    refine ⟨A, c, rfl, hc, hnw, fun h0 ad hA => ?_⟩
    subst hA
    have h1 := hnew ad.block rfl
    have h2 := q_lt hq9 ad.block rfl
    exact ⟨.inr (.inr ⟨h1, h2⟩), hne _ rfl, fun e => by have := q_lt h.lq _ e; omega⟩
  · intro b hb
    rcases hb with hb | hb
    · have := h.lt b hb; simp; omega
    · have := h.lt m h.op; simp at hb ⊢; omega
  · exact (But.of_below hb8).set (.inr h.op) _
theorem QS.drewN {w : World} {B p : Nat} {s : St} {own : Nat → Prop} (h : QS w B p s own) (n : Nat) : QS (w.drewN n) B p s own := by
  obtain ⟨hv, lv, vs, h⟩ := h
  exact ⟨hv, lv, vs, h.below ⟨rfl, rfl, rfl, Nat.le_refl _, fun _ _ => rfl⟩⟩
theorem ActsRel.drewN {w wr : World} {len B m n d : Nat} {v : Value} (h : ActsRel w len B m n d v wr) (k : Nat) : ActsRel w len B m n d v (wr.drewN k) := by
  obtain ⟨i, s, own, mo, h1, h2, h3, h4, h5⟩ := h
  have hb : Below wr.heap.size wr (wr.drewN k) := ⟨rfl, rfl, rfl, Nat.le_refl _, fun _ _ => rfl⟩
  exact ⟨i, s, own, mo, h1, h2, h3.below hb, h4, h5.trans (hb.mono h5.size)⟩
theorem u8s_at {bs : List Int} {j : Nat} (h : j < bs.length) : ∃ x, (u8s bs)[j]? = some (.int .u8 x) := ⟨bs[j], by simp [u8s, h]⟩
theorem u8s_set (bs : List Int) (i : Nat) (x : Int) : u8s (bs.set i x) = (u8s bs).set i (.int .u8 x) := by simp [u8s]
/-- The loop that turns the bytes of one's own: so many rounds are left. -/
def Turned (w0 : World) (B : Nat) (v : Value) (len d : Nat) (x : Value) (wr : World) : Prop :=
  ∃ (k : Nat) (bs : List Int), x = .int .i64 (k : Int) ∧ k + d = len ∧ bs.length = len ∧ QRow wr B 5 1 v len (u8s bs) ∧ But (fun b => v.ownBlock = some b) w0 wr
theorem tmod4 (k : Int) (h : 0 ≤ k) : k.tmod 4 = 0 ∨ k.tmod 4 = 1 ∨ k.tmod 4 = 2 ∨ k.tmod 4 = 3 := by
  rw [Int.tmod_eq_emod_of_nonneg h]; omega

set_option maxHeartbeats 8000000 in
set_option maxRecDepth 100000 in
theorem acts_c (w : World) (a0 : Int) (h0 : -9223372036854775808 ≤ a0 ∧ a0 ≤ 9223372036854775807) (A : Option Addr) (c0 : Nat) (acs : List Ac) (hlm : acs.length ≤ maxLen) (hwf : ∀ ac ∈ acs, ac.wf) (hca : Came w A acs) (hc0 : acs.length ≤ c0) :
    Calls Try.prog 4 #[.int .i64 a0, .slice A acs.length c0] w fun e w' => e = .returned (.bool true) ∧ Below w.heap.size w w' := by
  have HA := Aside0.mk hca
  have HW := Aside0.mk hwf
  obtain ⟨n, hsz, hn⟩ := size_is a0 h0
  have HS := Aside0.mk hsz
  clear hca hsz h0 hwf
  cases hfit : fitsB acs
  · go_enter Try.func4, Try.ntmps4
    go_wp2_with fail
    refine (lives_c _).mono ?_
    rintro e w1 ⟨rfl, hb1⟩
    go_wp2_with fail
    refine (fits_c w1 A c0 acs hlm HW.out (fun i ac hi => by obtain ⟨ad, Ai, ci, h1, h2⟩ := HA.out i ac hi; exact ⟨ad, Ai, ci, h1, h2.below hb1⟩)).mono ?_
    rintro e w2 ⟨rfl, hb2⟩
    rw [hfit]
    have hb := hb1.trans (hb2.mono hb1.size)
    clear hb1 hb2
    go_wp2_with fail
    refine (lives_c w2).mono ?_
    rintro e w3 ⟨rfl, hb3⟩
    have hb := hb.trans (hb3.mono hb.size)
    clear hb3
    go_wp2_with fail
    exact bodyPost_ret (v := .bool true) (by simp [results, Try.results4, go_sem, *]) rfl ⟨rfl, hb⟩
  · go_enter Try.func4, Try.ntmps4
    go_wp2_with fail
    refine (lives_c _).mono ?_
    rintro e w1 ⟨rfl, hb1⟩
    go_wp2_with fail
    refine (fits_c w1 A c0 acs hlm HW.out (fun i ac hi => by obtain ⟨ad, Ai, ci, h1, h2⟩ := HA.out i ac hi; exact ⟨ad, Ai, ci, h1, h2.below hb1⟩)).mono ?_
    rintro e w2 ⟨rfl, hb2⟩
    rw [hfit]
    have hb := hb1.trans (hb2.mono hb1.size)
    clear hb1 hb2
    have hf100 : acs.length ≤ 80 ∧ ∀ ac ∈ acs, ac.bs.length ≤ 100 := by
      simp [fitsB] at hfit; exact ⟨hfit.2, hfit.1⟩
    have HF := Aside0.mk hf100.2
    have hl80 := hf100.1
    clear hfit hf100
    go_wp2_with fail
    rw [HS.out]
    refine (new_c n (by omega) _).mono ?_
    rintro e w3 ⟨rfl, hq3, hb3⟩
    have hB := hb.size
    have hb := hb.trans (hb3.mono hb.size)
    have ht := Two.start (n := n) hq3 hb3.size
    have hb := hb.trans ((Below.refl _ w3).alloc (by have := hb3.size; omega) (.cells #[.slice none 0 0, .slice none 0 0, .int .i64 (n : Int), .bool true, .int .i64 0] 41))
    obtain ⟨B, hBe⟩ : ∃ B, w2.heap.size = B := ⟨_, rfl⟩
    obtain ⟨m, hme⟩ : ∃ m, w3.heap.size = m := ⟨_, rfl⟩
    rw [hBe] at ht hB ⊢
    rw [hme] at ht
    clear hb3 hq3
    have HAT := Aside0.mk (⟨0, ⟨[], [], n, true, 0⟩, _, _, rfl, by simp, ht, ⟨rfl, hn, by simp, by simp, by simp, by simp⟩, hb⟩ : ActsRel w acs.length B m n acs.length (.int .i64 ((0 : Nat) : Int)) _)
    clear ht hb
    go_wp2_with fail
    clear hme hBe
    go_loopg [41] acs.length (fun d v wr => ActsRel w acs.length B m n d v wr)
    case atStart => exact HAT.out
    case round =>
      clear HAT
      obtain ⟨i, s, own, mo, rfl, hi, ht, hs, hb⟩ := hrel
      by_cases hlt : i < acs.length
      · cases gk with
        | zero => omega
        | succ go =>
        obtain ⟨ac, hac⟩ : ∃ ac, acs[i]? = some ac := ⟨acs[i], by simp [hlt]⟩
        obtain ⟨ad, Ai, ci, rfl, hat⟩ := HA.out i ac hac
        obtain ⟨x0, x1, x2, x3, xc, xb⟩ := hat.below hb
        have dlt : decide ((i : Int) < (acs.length : Int)) = true := by simp; omega
        have dlt2 : decide (i < acs.length) = true := decide_eq_true hlt
        have h100 := HF.out ac (List.mem_of_getElem? hac)
        have hwk := HW.out ac (List.mem_of_getElem? hac)
        have HXB := Aside0.mk xb
        have HT := Aside0.mk (And.intro ht (And.intro hs hb))
        have hAi : 0 < ac.bs.length → ∀ ad, Ai = some ad → ad.block < B := fun h0 ad ha => by have := cell_block hat.by_ h0 ad ha; omega
        have HAI := Aside0.mk hAi
        clear hat xb hac ht hs hb hAi
        have hBr := HT.out.1.le
        go_wp2_with (at_builtin; refine wpList_append_q T32 _ rfl _ _ rfl B _ 0 [] rfl ?c0 Ai ac.bs.length ci (u8s ac.bs) rfl ?c1 ?c2 ?c3 ?c4 ?_)
        case c0 => exact q_empty' _ _ _ 5 1 (by simp) (by omega)
        case c1 => exact News.below HXB.out (((Below.refl _ wr).alloc (Nat.le_refl _) _).alloc (by simp) _)
        case c2 => unfold maxLen; omega
        case c3 => omega
        case c4 => simp; omega
        rintro v' w4 ⟨hq, hg, hat', _⟩
        simp only [Nat.zero_add, List.nil_append] at hq
        obtain ⟨A1, k1, hv1, hk1⟩ := q_slice hq
        subst hv1
        obtain ⟨wb, hwb⟩ : ∃ wb, wr.alloc (.cells #[.int .u8 ac.kind, .bool ac.whole, .int .i64 ac.n, .slice Ai ac.bs.length ci] 34) = wb := ⟨_, rfl⟩
        have hwbs : wb.heap.size = wr.heap.size + 1 := by rw [← hwb]; simp
        have hbx0 : Has wb wr.heap.size 34 [.int .u8 ac.kind, .bool ac.whole, .int .i64 ac.n, .slice Ai ac.bs.length ci] := by rw [← hwb]; exact Has.new wr 34 [_, _, _, _]
        rw [hwb] at hg hat'
        have hbx : Has w4 wr.heap.size 34 [.int .u8 ac.kind, .bool ac.whole, .int .i64 ac.n, .slice Ai ac.bs.length ci] := (hbx0.alloc (.cells #[] 5)).grown hg (by simp [Value.ownBlock])
        have hb4 : Below wr.heap.size wr w4 := Below.grown (((Below.refl _ wr).alloc (Nat.le_refl _) (.cells #[.int .u8 ac.kind, .bool ac.whole, .int .i64 ac.n, .slice Ai ac.bs.length ci] 34)).alloc (by simp) (.cells #[] 5)) (by rw [hwb]; exact hg) (by simp; omega) (fun k hk => by simp [Value.ownBlock] at hk; omega)
        have hob : ∀ k, (Value.slice A1 ac.bs.length k1).ownBlock = some k → wr.heap.size + 1 ≤ k := fun k hk => by
          rcases hat' with hat | ⟨b, hat, hb⟩
          · rw [hat] at hk; simp [Value.ownBlock] at hk; omega
          · rw [hat] at hk; simp [hwbs] at hk hb; omega
        have hnw := News.below HXB.out hb4
        have hno := news_of_q hq ac.bs.length (Nat.le_refl _)
        rw [List.take_length] at hno
        have ht4 := HT.out.1.below hb4
        have hdis : ∀ k, (Value.slice A1 ac.bs.length k1).ownBlock = some k → ¬ own k ∧ ¬ mo k := fun k hk => by
          have h1 := hob k hk
          exact ⟨fun h => by have := HT.out.1.q.lt k h; omega, fun h => by have := HT.out.1.m.lt k h; omega⟩
        have H4 := Aside0.mk ht4
        have HO := Aside0.mk (And.intro hq (And.intro hdis (HT.out.2.2.trans (hb4.mono HT.out.2.2.size))))
        have HNW := Aside0.mk hnw
        have HNO := Aside0.mk hno
        have HBX := Aside0.mk hbx
        have HSD := Aside0.mk HT.out.2.1
        have HTB : ¬ own wr.heap.size ∧ ¬ mo wr.heap.size := ⟨fun h => by have := HT.out.1.q.lt _ h; omega, fun h => by have := HT.out.1.m.lt _ h; omega⟩
        have hsz4 : wr.heap.size < w4.heap.size := hbx.lt
        obtain ⟨o0, o1, o2, o3, of⟩ := hbx.four
        have HTX := Aside0.mk HTB
        clear ht4 hbx hb4 hq hob hnw hno hbx0 hg hat' hwbs hwb hdis HTB
        have hk4 := tmod4 ac.kind hwk.1.1
        obtain ⟨r, hr⟩ : ∃ r, ac.kind.tmod 4 = r := ⟨_, rfl⟩
        rw [hr] at hk4
        go_upto_region 12 with (fail)
        clear x0 x1 x2 x3
        go_cut [51] (fun s51 wx => s51 = .int .u8 r ∧ w4 = wx)
        case first =>
          go_wp2_with fail
          go_meet
          case rel => exact ⟨rfl, rfl⟩
        case rest =>
        obtain ⟨rfl, rfl⟩ := hcut
        clear hr
        go_step
        go_cut [] (fun wx => After w B m n (i + 1) (.slice A1 ac.bs.length k1) ac.bs wx)
        case first =>
          rcases hk4 with rfl | rfl | rfl | rfl
          · go_upto_region 16 with (fail)
            go_region_held3 (fun w' => w'.cell? ⟨wr.heap.size, 1, none⟩ = some (.bool ac.whole) ∧ w'.cell? ⟨wr.heap.size, 3, none⟩ = some (.slice Ai ac.bs.length ci))
              (first | (with_reducible exact ⟨z1, z3⟩) | (with_reducible exact ⟨y1, y3⟩) | go_keep)
              (first
                | (go_at_call 10
                   refine (offer_c (H4.out.below (Below.refl _ _).drew).q A1 k1 ac.bs ac.whole (News.below HNO.out (Below.refl _ _).drew) ?ha ?hb ?hc).mono ?_
                   case ha => exact fun ad ha ho => (HO.out.2.1 ad.block (by rw [ha]; rfl)).1 ho
                   case hb => exact H4.out.le
                   case hc => have := HSD.out.lost; have := HSD.out.len; omega
                   rintro e w5 ⟨rfl, hq5, hb5⟩
                   have hb5 : But own w4 w5 := ⟨hb5.os, hb5.tape, hb5.output, hb5.size, hb5.block⟩
                   have hq5 : QS w5 B B (s.offer ac.bs ac.whole) (grow own w4 w5) := hq5
                   have hbx5 := HBX.out.but hb5 HTX.out.1
                   obtain ⟨y0, y1, y2, y3, _⟩ := hbx5.four)
                | (go_at_call 13
                   refine (moffer_c (H4.out.mid hb5) Ai ci ac.bs ac.whole (News.butp HNW.out hb5 ?ha) xc HAI.out ?hb ?hc).mono ?_
                   case ha => exact fun h0 ad ha ho => by have := HAI.out h0 ad ha; have := H4.out.q.lt _ ho; omega
                   case hb => have := hb5.size; have := H4.out.le; omega
                   case hc => have := HSD.out.lost; have := HSD.out.len; have := HSD.out.most; omega
                   rintro e w6 ⟨rfl, hm6, hb6⟩
                   obtain ⟨z0, z1, z2, z3, _⟩ := (hbx5.but hb6 HTX.out.2).four))
            have HE := Aside0.mk (After.make H4.out HO.out.1 HO.out.2.1 HO.out.2.2 hB hq5 hb5 hm6 hb6 (HSD.out.offer ac.bs ac.whole h100))
            clear hq5 hb5 hm6 hb6 hbx5 y0 y1 y2 y3 z0 z1 z2 z3
            go_wp2_with fail
            go_meet
            case rel => exact HE.out
          · go_upto_region 19 with (fail)
            go_wp2_with fail
            refine (say_c H4.out.q A1 k1 ac.bs HNO.out H4.out.le (by have := HSD.out.head; omega)).mono ?_
            rintro e w5 ⟨rfl, hq5, hb5⟩
            have hq5 : QS w5 B B (s.say ac.bs) (grow own w4 w5) := hq5
            have hbx5 := HBX.out.but hb5 HTX.out.1
            have hm5 := H4.out.mid hb5
            have hnw5 := News.butp HNW.out hb5 (fun h0 ad ha ho => by have := HAI.out h0 ad ha; have := H4.out.q.lt _ ho; omega)
            have hB5 : B ≤ w5.heap.size := by have := hb5.size; have := H4.out.le; omega
            obtain ⟨hvm, lvm, vsm, hm5⟩ := hm5
            obtain ⟨Ah, ch, rfl, hch, hnh, _⟩ := hm5.hh
            have hhl := HSD.out.head
            have hp5 : Has w5 m 41 [.slice Ah s.hd.length ch, lvm, .int .i64 (s.most : Int), .bool s.drops, .int .i64 (s.lost : Int)] := hm5.hp
            obtain ⟨f0, f1, f2, f3, f4, ff⟩ := hp5.five
            obtain ⟨y0, y1, y2, y3, yf⟩ := hbx5.four
            obtain ⟨g0, g1, g2, g3, g4, gf⟩ := (hp5.alloc (.cells #[] 5)).five
            obtain ⟨l0, l1, l2, l3, lf⟩ := (hbx5.alloc (.cells #[] 5)).four
            have HQ5 := Aside0.mk (And.intro hq5 hb5)
            have HM5 := Aside0.mk hm5
            have HP5 := Aside0.mk hp5
            have HX5 := Aside0.mk hbx5
            have HN5 := Aside0.mk (And.intro hnh hnw5)
            have hi80 : i ≤ 80 := by omega
            have HK5 := Aside0.mk (show s.hd.length + ac.bs.length ≤ 10000 by omega)
            clear hq5 hb5 hm5 hp5 hbx5 hnh hnw5
            go_upto_region 20 with (fail)
            go_region_law (first
              | (refine step_append_q T32 rfl (.tmp 76) (.tmp 80) rfl B (.slice (some ⟨w5.heap.size, 0, none⟩) 0 0) 0 [] rfl (q_move (q_empty' w5 B _ 5 1 rfl hB5) (fun _ _ => rfl)) Ah s.hd.length ch (u8s s.hd) rfl (News.below (News.below HN5.out.1 ((Below.refl _ w5).alloc (Nat.le_refl _) (.cells #[] 5))) (Below.refl _ _).drew) (by have := HK5.out; unfold maxLen; omega) (by have := HK5.out; omega) (by simp; omega) ?_
                 rintro v7 w7 ⟨hq7, hg7, hat7, _⟩
                 have hp7 : Has w7 m 41 [.slice Ah s.hd.length ch, lvm, .int .i64 (s.most : Int), .bool s.drops, .int .i64 (s.lost : Int)] := (Has.drew (Has.alloc HP5.out (.cells #[] 5))).grown hg7 (by have := HP5.out.lt; simp [Value.ownBlock]; omega)
                 have hx7 : Has w7 wr.heap.size 34 [.int .u8 ac.kind, .bool ac.whole, .int .i64 ac.n, .slice Ai ac.bs.length ci] := (Has.drew (Has.alloc HX5.out (.cells #[] 5))).grown hg7 (by have := HX5.out.lt; simp [Value.ownBlock]; omega)
                 have hb7 : Below w5.heap.size w5 w7 := Below.grown (((Below.refl _ w5).alloc (Nat.le_refl _) (.cells #[] 5)).drew) hg7 (by simp) (fun k hk => by simp [Value.ownBlock] at hk; omega)
                 have h7n : ∀ k, v7.ownBlock = some k → w5.heap.size ≤ k := fun k hk => by
                   rcases hat7 with hat | ⟨b, hat, hb⟩
                   · rw [hat] at hk; simp [Value.ownBlock] at hk; omega
                   · rw [hat] at hk; simp at hk hb; omega
                 obtain ⟨p0, p1, p2, p3, p4, pf⟩ := hp7.five
                 obtain ⟨r0, r1, r2, r3, rf⟩ := hx7.four
                 obtain ⟨A7, k7, hv7, hk7⟩ := q_slice hq7
                 subst hv7
                 simp only [Nat.zero_add, List.nil_append] at *)
              | (refine step_append_q T32 rfl (.tmp 81) (.tmp 83) rfl B (.slice A7 s.hd.length k7) s.hd.length (u8s s.hd) rfl hq7 Ai ac.bs.length ci (u8s ac.bs) rfl (News.below HN5.out.2 hb7) (by have := HK5.out; unfold maxLen; omega) (by have := HK5.out; omega) (by have := hb7.size; omega) ?_
                 rintro v8 w8 ⟨hq8, hg8, hat8, _⟩
                 have hp8 : Has w8 m 41 [.slice Ah s.hd.length ch, lvm, .int .i64 (s.most : Int), .bool s.drops, .int .i64 (s.lost : Int)] := hp7.grown hg8 (fun e => by have := h7n m e.symm; have := HP5.out.lt; omega)
                 obtain ⟨q0, q1, q2, q3, q4, qf⟩ := hp8.five
                 obtain ⟨A8, k8, hv8, hk8⟩ := q_slice hq8
                 subst hv8))
            all_goals
              have h8n : ∀ k, (Value.slice A8 (s.hd.length + ac.bs.length) k8).ownBlock = some k → w5.heap.size ≤ k := fun k hk => by
                rcases hat8 with hat | ⟨b, hat, hb⟩
                · rw [hat] at hk; exact h7n k hk
                · rw [hat] at hk; simp at hk; have := hb7.size; omega
              have hsd := HM5.out.said (n := s.hd.length + ac.bs.length) rfl hq8 (Below.grown hb7 hg8 hb7.size h7n) h8n
              have HE := Aside0.mk (After.make H4.out HO.out.1 HO.out.2.1 HO.out.2.2 hB HQ5.out.1 HQ5.out.2 hsd.1 hsd.2 (HSD.out.say ac.bs h100))
              clear hsd h8n h7n hb7 hq8 hg8 hat8 hp8 hq7 hg7 hat7 hp7 hx7 q0 q1 q2 q3 q4 qf p0 p1 p2 p3 p4 pf r0 r1 r2 r3 rf g0 g1 g2 g3 g4 gf l0 l1 l2 l3 lf f0 f1 f2 f3 f4 ff y0 y1 y2 y3 yf
              go_wp2_with fail
              go_meet
              case rel => exact HE.out
          · obtain ⟨K, hK⟩ : ∃ K, ac.n.tmod 150 = K := ⟨_, rfl⟩
            have hKb : K ≤ 149 := by rw [← hK]; have := Int.tmod_lt_of_pos ac.n (show (0 : Int) < 150 by omega); omega
            go_upto_region 23 with (fail)
            clear hK
            by_cases hK0 : K ≤ 0
            · have hcv : ∀ w', (convert 32 9 (.slice none 0 0)).run Try.prog w' = .ok (.string ⟨#[]⟩) w' := fun w' => str_of_q (bs := []) (show QRow w' 0 5 1 (.slice none 0 0) 0 (u8s []) from q_nil w' 0 5)
              have hcv4 := hcv w4.drew
              clear hcv
              go_region_with (first
                | (go_at_call 11; refine (take_low K hK0 B _).mono ?_; rintro e w5 ⟨rfl, rfl⟩)
                | (go_at_call 14; refine (mtake_low K hK0 m _).mono ?_; rintro e w6 ⟨rfl, rfl⟩))
              all_goals
                have HE := Aside0.mk (⟨s, own, mo, H4.out.below (Below.refl _ _).drew, HSD.out.next, HO.out.2.2.drew, q_but HO.out.1 (But.refl (fun _ => False) w4).drew (fun _ _ h => h), HO.out.2.1⟩ : After w B m n (i + 1) (.slice A1 ac.bs.length k1) ac.bs w4.drew)
                go_wp2_with fail
                go_meet
                case rel => exact HE.out
            · obtain ⟨N, rfl⟩ : ∃ N : Nat, K = (N : Int) := ⟨K.toNat, by omega⟩
              go_region_with (first
                | (go_at_call 11
                   refine (take_c (H4.out.below (Below.refl _ _).drew).q N ⟨by omega, by omega⟩ ?ha).mono ?_
                   case ha => exact H4.out.le
                   rintro e w5 ⟨v5, rfl, hv5, hq5, hb5⟩
                   have hb5 : But own w4 w5 := ⟨hb5.os, hb5.tape, hb5.output, hb5.size, hb5.block⟩
                   have hq5 : QS w5 B B (s.take N) own := hq5
                   obtain ⟨A5, c5, he5, _⟩ := q_slice hv5
                   subst he5
                   have hcv5 := str_of_q hv5)
                | (go_at_call 14
                   refine (mtake_c (H4.out.mid hb5) N ⟨by omega, by omega⟩).mono ?_
                   rintro e w6 ⟨rfl, hm6, hb6, _⟩
                   have hcv6 := str_of_q (q_but hv5 hb6 (fun k hk hmo => by have h1 := (q_typed hv5 k hk).1; have h2 := (H4.out.m.lt k hmo).2; have h1 : w4.heap.size ≤ k := h1; omega))))
              all_goals
                have HE := Aside0.mk (After.make H4.out HO.out.1 HO.out.2.1 HO.out.2.2 hB (QS.grown hq5 hb5.size H4.out.le) hb5 (hm6.grown hb6.size (by have := hb5.size; have := H4.out.le; omega)) hb6 (HSD.out.take N))
                clear hq5 hb5 hm6 hb6 hv5
                go_wp2_with fail
                go_meet
                case rel => exact HE.out
          · go_wp2_with fail
            refine (flush_c H4.out.q (by have := HSD.out.lost; have := HSD.out.len; omega)).mono ?_
            rintro e w5 ⟨rfl, hq5, hb5⟩
            have hm5 := H4.out.mid hb5
            go_wp2_with fail
            refine (mflush_c hm5 (by have := HSD.out.lost; have := HSD.out.len; omega)).mono ?_
            rintro e w6 ⟨rfl, hm6, hb6, _⟩
            go_wp2_with fail
            go_meet
            case rel =>
              exact After.make H4.out HO.out.1 HO.out.2.1 HO.out.2.2 hB (QS.grown (s := s.flush) hq5 hb5.size H4.out.le) hb5 (hm6.grown hb6.size (by have := hb5.size; have := H4.out.le; omega)) hb6 HSD.out.flush
        case rest =>
          clear o0 o1 o2 o3 of hk4 H4 HO HNW HNO HBX HSD HTX hsz4 HT HXB
          obtain ⟨s5, own5, mo5, h5, hs5, hb5, hq5, hd5⟩ := hcut
          have H5 := Aside0.mk (And.intro h5 (And.intro hs5 (And.intro hb5 hd5)))
          have HT := Aside0.mk (⟨0, ac.bs, rfl, by simp, rfl, hq5, But.refl _ wc⟩ : Turned wc B (.slice A1 ac.bs.length k1) ac.bs.length ac.bs.length (.int .i64 ((0 : Nat) : Int)) wc)
          clear h5 hs5 hb5 hq5 hd5
          obtain ⟨w5, rfl⟩ : ∃ w5 : World, w5 = wc := ⟨_, rfl⟩
          go_wp2_with fail
          go_loopg [102] ac.bs.length (fun d v wr => Turned w5 B (.slice A1 ac.bs.length k1) ac.bs.length d v wr)
          case atStart => exact HT.out
          case round =>
            clear HT
            obtain ⟨j, bs, rfl, hj, hbl, hq, hbut⟩ := hrel
            by_cases hlt3 : j < ac.bs.length
            · cases gk with
              | zero => omega
              | succ gj =>
              obtain ⟨bq, o, rfl, hbq, hcell, hfr, hset⟩ := q_open hq (by omega)
              obtain ⟨x, hx⟩ := u8s_at (bs := bs) (j := j) (by omega)
              have hc := (hcell j hlt3).trans hx
              have hset' : ∀ X, QRow (wr.setCell ⟨bq, o + j, none⟩ (.int .u8 X)) B 5 1 (.slice (some ⟨bq, o, none⟩) ac.bs.length k1) ac.bs.length (u8s (bs.set j X)) := fun X => by rw [u8s_set]; exact hset j _ hlt3
              have HSET := Aside0.mk hset'
              clear hset hset' hcell hx
              go_wp2_with fail
              go_roundg gj
              case measure => omega
              case rel => exact ⟨j + 1, bs.set j _, by go_num, by omega, by simpa using hbl, HSET.out _, hbut.set (p := ⟨bq, o + j, none⟩) (.inr rfl) _⟩
            · have e1 : decide ((j : Int) < (ac.bs.length : Int)) = false := by simp; omega
              have e2 : decide (j < ac.bs.length) = false := decide_eq_false hlt3
              have hq6 : QS wr B B s5 own5 := Q.but H5.out.1.q hbut (fun b h1 h2 => (H5.out.2.2.2 b h2).1 h1)
              have hm6 : MS wr B m s5 mo5 := H5.out.1.m.but hbut (fun b _ h1 h2 => by
                rcases h1 with h1 | h1
                · have := (q_typed hq b h2).1; omega
                · exact (H5.out.2.2.2 b h2).2 h1)
              have hb6 : Below w.heap.size w wr := H5.out.2.2.1.trans (hbut.below H5.out.2.2.1.size (fun b hk => by have := (q_typed hq b hk).1; omega))
              have HN := Aside0.mk (⟨i + 1, s5, own5, mo5, rfl, by omega, Two.below ⟨hq6, hm6, H5.out.1.ap⟩ (Below.refl _ _).drew, H5.out.2.1, hb6.drew⟩ : ActsRel w acs.length B m n go (.int .i64 ((i + 1 : Nat) : Int)) wr.drew)
              have HQ6 := Aside0.mk hq6
              have hq7 := hq6.below (Below.refl _ wr).drew
              have hm7 := hm6.below (Below.refl _ wr).drew
              clear hq6 hm6 hb6 hq hbut
              go_wp2_with fail
              refine (waits_c HQ6.out).mono ?_
              rintro e w6 ⟨rfl, hw6⟩
              rw [← hw6] at hq7 hm7 HN
              clear hw6
              have HL := Aside0.mk (fun n => (lost_c (w := w6.drewN n) (QS.drewN hq7 n)).mono fun e w' h => h.turn)
              have hl5 := H5.out.2.1.len
              obtain ⟨hv7, lv7, vs7, hm7⟩ := hm7
              obtain ⟨Ah, ch, hhv, hch, _, _⟩ := hm7.hh
              subst hhv
              obtain ⟨Al, kl, hlv, hkl⟩ := q_slice hm7.lq
              subst hlv
              obtain ⟨c0, c1, c2, c3, c4, cf⟩ := hm7.hp.five
              have f1 : ((s5.l.length : Int) != (s5.l.length : Int)) = false := by simp
              have f2 : ((s5.hd.length : Int) != (s5.hd.length : Int)) = false := by simp
              have f3 : ((s5.lost : Int) != (s5.lost : Int)) = false := by simp
              have f4 : decide ((n : Int) < (s5.l.length : Int)) = false := by simp; omega
              have f5 : decide (n < s5.l.length) = false := decide_eq_false (by omega)
              clear hq7 hm7
              go_upto_region 31 with (fail)
              go_quiet ((go_at_call 17; with_reducible exact Calls.quiet_of_same (HL.out _)))
              go_wp2_with fail
              go_roundg go
              case measure => omega
              case rel =>
                have h := ActsRel.drewN (d := go) HN.out nq
                rwa [show (((i + 1 : Nat)) : Int) = (i : Int) + 1 by omega] at h
      · have e1 : decide ((i : Int) < (acs.length : Int)) = false := by simp; omega
        have e2 : decide (i < acs.length) = false := decide_eq_false hlt
        have H4 := Aside0.mk ht
        have HB4 := Aside0.mk hb
        clear ht hb hs
        go_upto_region 34 with (fail)
        go_region_with (first
          | (go_at_call 11
             refine (take_c (H4.out.below (Below.refl _ _).drew).q 1048576 ⟨by omega, by omega⟩ ?ha).mono ?_
             case ha => exact H4.out.le
             rintro e w5 ⟨v5, rfl, hv5, hq5, hb5⟩
             have hb5 : But own wr w5 := ⟨hb5.os, hb5.tape, hb5.output, hb5.size, hb5.block⟩
             obtain ⟨A5, c5, he5, _⟩ := q_slice hv5
             subst he5
             have hcv5 := str_of_q hv5)
          | (go_at_call 14
             refine (mtake_c (H4.out.mid hb5) 1048576 ⟨by omega, by omega⟩).mono ?_
             rintro e w6 ⟨rfl, hm6, hb6, _⟩
             have hcv6 := str_of_q (q_but hv5 hb6 (fun k hk hmo => by have h1 := (q_typed hv5 k hk).1; have h2 := (H4.out.m.lt k hmo).2; have h1 : wr.heap.size ≤ k := h1; omega))))
        all_goals
          have hbe : Below w.heap.size w w5 := HB4.out.trans (hb5.below HB4.out.size (fun k hk => by have := H4.out.q.lt k hk; omega))
          have hbe := hbe.trans (hb6.below hbe.size (fun k hk => by have := H4.out.m.lt k hk; omega))
          have HE := Aside0.mk hbe
          clear hq5 hb5 hm6 hb6 hv5 hbe
          go_wp2_with fail
          refine bodyPost_ret (v := .bool true) (by simp [results, Try.results4, go_sem, *]) rfl ⟨rfl, HE.out⟩
end Go.Proofs.Ytdfpfchkiogkgaa.Own
