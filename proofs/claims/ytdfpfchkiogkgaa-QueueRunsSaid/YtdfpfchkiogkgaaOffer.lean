/-
  The queue's function Offer by its contract.
-/
import Derived.Test.YtdfpfchkiogkgaaQueue
set_option linter.unusedVariables false
set_option linter.unusedSimpArgs false
namespace Go.Proofs.Ytdfpfchkiogkgaa.Own
open Go.RowKit Go.Proofs.YtdfpfchkiogkgaaW.PrintWords Go.Proofs.YtdfpfchkiogkgaaW.PrintMore Go.Proofs.Ytdfpfchkiogkgaa.H

/-- What a queue has. -/
structure St where
  hd : List Int
  l : List (List Int)
  most : Nat
  drops : Bool
  lost : Nat
def QS (w : World) (B p : Nat) (s : St) (own : Nat → Prop) : Prop := Q w B p s.hd s.l s.most s.drops s.lost own
def St.flush (s : St) : St := { s with l := [], drops := true, lost := s.lost + s.l.length }
def St.room (s : St) : St := if s.most ≤ s.l.length then s.flush else s
def St.put (s : St) (bs : List Int) (whole : Bool) : St := if s.drops && !whole then { s with lost := s.lost + 1 } else { s with drops := false, l := s.l ++ [bs] }
def St.takes (s : St) (whole : Bool) : Bool := !(s.drops && !whole)
def St.offer (s : St) (bs : List Int) (whole : Bool) : St := s.room.put bs whole

theorem one_new (w : World) (E : Nat) (u : Value) (hu : u.oneCell' = true) : News (w.alloc (.cells #[u] E)) 1 (some ⟨w.heap.size, 0, none⟩) 1 [u] := by
  refine ⟨by simp, by simpa using hu, fun _ => ⟨_, rfl, fun j x hx => ?_⟩⟩
  have hj : j = 0 := by have := (List.getElem?_eq_some_iff.1 hx).1; simpa using this
  subst hj
  have := (Has.new w E [u]).cell 0
  simpa [add_at] using this.trans hx
theorem News.below {w w1 : World} {A : Option Addr} {m : Nat} {xs : List Value} (h : News w 1 A m xs) (hb : Below w.heap.size w w1) : News w1 1 A m xs :=
  ⟨h.1, h.2.1, fun hm => by
    obtain ⟨ad, hA, hc⟩ := h.2.2 hm
    exact ⟨ad, hA, fun j u hu => (hb.cell (World.block_lt_of_cell? w _ (hc j u hu))).trans (hc j u hu)⟩⟩
theorem News.but {S : Nat → Prop} {w w1 : World} {A : Option Addr} {m : Nat} {xs : List Value} (h : News w 1 A m xs) (hb : But S w w1) (hs : ∀ ad, A = some ad → ¬ S ad.block) : News w1 1 A m xs :=
  ⟨h.1, h.2.1, fun hm => by
    obtain ⟨ad, hA, hc⟩ := h.2.2 hm
    refine ⟨ad, hA, fun j u hu => ?_⟩
    have h1 := hc j u hu
    have h2 := World.block_lt_of_cell? w _ h1
    have hbk : (ad.add j).block = ad.block := by unfold Addr.add; split <;> rfl
    exact (World.cell?_of_block (hb.block _ h2 (by rw [hbk]; exact hs ad hA))).trans h1⟩

section
variable {own : Nat → Prop} {w : World} {B p most lost : Nat} {hd : List Int} {l : List (List Int)} {drops : Bool} {hv lv : Value} {vs : List Value}
theorem QAt.at_p (h : QAt w B p hd l most drops lost own hv lv vs) {i : Nat} {u : Value} {dr : Bool} {lo : Nat} (hp : Has (w.setCell ⟨p, i, none⟩ u) p 48 [hv, lv, .int .i64 (most : Int), .bool dr, .int .i64 (lo : Int)]) :
    QAt (w.setCell ⟨p, i, none⟩ u) B p hd l most dr lo own hv lv vs :=
  ⟨hp, q_far h.hq h.hne _, q_far h.lq h.lne _, fun i v bs hi hbs => q_far (h.pk i v bs hi hbs) (h.vne v (List.mem_of_getElem? hi)) _, h.ap, h.op, h.ov, fun b hb => by have := h.lt b hb; simpa using this⟩
theorem QAt.setDrops (h : QAt w B p hd l most drops lost own hv lv vs) (b : Bool) : QAt (w.setCell ⟨p, 3, none⟩ (.bool b)) B p hd l most b lost own hv lv vs :=
  h.at_p (h.hp.set 3 _)
theorem QAt.setLost (h : QAt w B p hd l most drops lost own hv lv vs) (n : Nat) : QAt (w.setCell ⟨p, 4, none⟩ (.int .i64 (n : Int))) B p hd l most drops n own hv lv vs :=
  h.at_p (h.hp.set 4 _)
theorem QAt.nol (h : QAt w B p hd l most drops lost own hv lv vs) : QAt (w.setCell ⟨p, 1, none⟩ (.slice none 0 0)) B p hd [] most drops lost own hv (.slice none 0 0) [] := by
  refine ⟨h.hp.set 1 _, q_far h.hq h.hne _, q_nil _ _ _, fun i v bs hi => by simp at hi, by simp, h.op, ?_, fun b hb => by have := h.lt b hb; simpa using this⟩
  intro v hv' k hk
  simp at hv'
  rcases hv' with rfl | rfl
  · exact h.ov v (by simp) k hk
  · simp [Value.ownBlock] at hk
/-- A packet is put behind the others. -/
theorem QAt.pushed (h : QAt w B p hd l most false lost own hv lv vs) (hB : B ≤ w.heap.size) {w3 w4 : World} {pkt lv' : Value} {bs : List Int} {n m : Nat} (hn : n = bs.length) (hm : m = l.length + 1)
    (hq3 : QRow w3 B 5 1 pkt n (u8s bs)) (hg3 : (w.alloc (.cells #[] 5)).drew.grownBy w3 (Value.slice (some ⟨w.heap.size, 0, none⟩) 0 0).ownBlock) (hat3 : pkt.ownBlock = (Value.slice (some ⟨w.heap.size, 0, none⟩) 0 0).ownBlock ∨ ∃ b, pkt.ownBlock = some b ∧ (w.alloc (.cells #[] 5)).drew.heap.size ≤ b)
    (hq4 : QRow w4 B 32 1 lv' m (vs ++ [pkt])) (hg4 : (w3.alloc (.cells #[pkt] 32)).grownBy w4 lv.ownBlock) (hat4 : lv'.ownBlock = lv.ownBlock ∨ ∃ b, lv'.ownBlock = some b ∧ (w3.alloc (.cells #[pkt] 32)).heap.size ≤ b) :
    QAt (w4.setCell ⟨p, 1, none⟩ lv') B p hd (l ++ [bs]) most false lost (grow own w (w4.setCell ⟨p, 1, none⟩ lv')) hv lv' (vs ++ [pkt]) ∧ But own w (w4.setCell ⟨p, 1, none⟩ lv') := by
  subst hn hm
  have hs3 : w.heap.size + 1 ≤ w3.heap.size := by have := hg3.size; simpa using this
  have hs4 : w3.heap.size + 1 ≤ w4.heap.size := by have := hg4.size; simpa using this
  have hpk : ∀ k, pkt.ownBlock = some k → w.heap.size ≤ k ∧ k < w3.heap.size := by
    intro k hk
    refine ⟨?_, q_lt hq3 k hk⟩
    rcases hat3 with hat | ⟨b, hat, hb⟩
    · rw [hat] at hk; simp [Value.ownBlock] at hk; omega
    · rw [hat] at hk; simp at hk hb; omega
  have hk3 : ∀ k, k < w.heap.size → w3.heap[k]? = w.heap[k]? := by
    intro k hk
    rw [hg3.block k (by simp; omega) (by simp [Value.ownBlock]; omega)]
    exact heap_alloc_old w _ hk
  have hk4 : ∀ k, k < w3.heap.size → lv.ownBlock ≠ some k → w4.heap[k]? = w3.heap[k]? := by
    intro k hk hne
    rw [hg4.block k (by simp; omega) (fun e => hne e.symm)]
    exact heap_alloc_old w3 _ hk
  have mv : ∀ k, k < w.heap.size → lv.ownBlock ≠ some k → k ≠ p → (w4.setCell ⟨p, 1, none⟩ lv').heap[k]? = w.heap[k]? := by
    intro k hk hne hkp
    rw [Below.heap_setCell _ _ _ k hkp, hk4 k (by omega) hne, hk3 k hk]
  have hln : ∀ {v : Value} {n : Nat} {xs : List Value} , QRow w B 5 1 v n xs → ∀ k, v.ownBlock = some k → lv.ownBlock ≠ some k := by
    intro v n xs hq k hk e
    obtain ⟨_, cur, hc⟩ := q_typed hq k hk
    obtain ⟨_, cur', hc'⟩ := q_typed h.lq k e
    have := hc.symm.trans hc'
    simp at this
  have hplt := h.lt p h.op
  have hp4 : Has w4 p 48 [hv, lv, .int .i64 (most : Int), .bool false, .int .i64 (lost : Int)] :=
    (hk4 p (by omega) (fun e => h.lne p e rfl)).trans ((hk3 p hplt.2).trans h.hp)
  have hlv' : ∀ k, lv'.ownBlock = some k → (lv.ownBlock = some k) ∨ (w.heap.size ≤ k ∧ k < w4.heap.size) := by
    intro k hk
    rcases hat4 with hat | ⟨b, hat, hb⟩
    · rw [hat] at hk; exact .inl hk
    · have := q_lt hq4 k hk
      rw [hat] at hk; simp at hk hb; right; omega
  have hne4 : ∀ k, lv'.ownBlock = some k → k ≠ p := typed_ne hq4 hp4 (by decide)
  refine ⟨⟨hp4.set 1 _, q_move h.hq (fun k hk => mv k (q_lt h.hq k hk) (hln h.hq k hk) (h.hne k hk)), ?_, ?_, ?_, .inl h.op, ?_, ?_⟩, ?_⟩
  · have := q_far hq4 (p := ⟨p, 1, none⟩) hne4 lv'
    simpa using this
  · intro i v b hi hb
    have hvl := h.vlen
    by_cases hil : i < l.length
    · rw [List.getElem?_append_left (by omega)] at hi
      rw [List.getElem?_append_left hil] at hb
      have hqv := h.pk i v b hi hb
      exact q_move hqv (fun k hk => mv k (q_lt hqv k hk) (hln hqv k hk) (h.vne v (List.mem_of_getElem? hi) k hk))
    · have hi2 := (List.getElem?_eq_some_iff.1 hi).1
      have hie : i = l.length := by simp at hi2; omega
      subst hie
      rw [List.getElem?_append_right (by omega), hvl] at hi
      simp at hi hb
      subst hi hb
      refine q_move hq3 (fun k hk => ?_)
      have hkk := hpk k hk
      rw [Below.heap_setCell _ _ _ k (by simp; omega), hk4 k hkk.2 (fun e => by have := q_lt h.lq k e; omega)]
  · show ((hv :: vs) ++ [pkt]).Pairwise Apart
    refine List.pairwise_append.2 ⟨h.ap, by simp, fun v hv' u hu k hk e => ?_⟩
    simp at hu
    subst hu
    have h1 := hpk k e
    have h2 := h.lt k (h.ov v (by simp at hv' ⊢; rcases hv' with rfl | hv' <;> simp [*]) k hk)
    omega
  · intro v hv' k hk
    simp only [List.mem_cons, List.mem_append, List.mem_nil_iff, or_false] at hv'
    rcases hv' with rfl | rfl | hv' | rfl
    · exact .inl (h.ov _ (by simp) k hk)
    · rcases hlv' k hk with h1 | h1
      · exact .inl (h.ov lv (by simp) k h1)
      · exact .inr (by simpa using h1)
    · exact .inl (h.ov _ (by simp [hv']) k hk)
    · have := hpk k hk; right; simp; omega
  · intro b hb'
    rcases hb' with hb' | hb'
    · have := h.lt b hb'; simp; omega
    · simp at hb' ⊢; omega
  · refine But.set ⟨?_, ?_, ?_, by omega, fun k hk hs => ?_⟩ (.inr h.op) _
    · exact (hg4.os.trans (show (w3.alloc _).os = w3.os from rfl)).trans (hg3.os.trans rfl)
    · exact (hg4.tape.trans (show (w3.alloc _).tape = w3.tape from rfl)).trans (hg3.tape.trans rfl)
    · exact (hg4.output.trans (show (w3.alloc _).output = w3.output from rfl)).trans (hg3.output.trans rfl)
    · rw [hk4 k (by omega) (fun e => hs (h.ov lv (by simp) k e)), hk3 k hk]
theorem q_put {own : Nat → Prop} {w w3 : World} {B p most lost : Nat} {hd : List Int} {l : List (List Int)} {drops : Bool} {hv lv : Value} {vs : List Value} (h : QAt w B p hd l most drops lost own hv lv vs)
    (hg3 : (w.alloc (.cells #[] 5)).drew.grownBy w3 (Value.slice (some ⟨w.heap.size, 0, none⟩) 0 0).ownBlock) {o : Obj} : QRow (w3.alloc o) B 32 1 lv l.length vs := by
  refine q_move h.lq (fun k hk => ?_)
  have hk1 := q_lt h.lq k hk
  have hs3 : w.heap.size + 1 ≤ w3.heap.size := by have := hg3.size; simpa using this
  rw [heap_alloc_old w3 _ (by omega), hg3.block k (by simp; omega) (by simp [Value.ownBlock]; omega)]
  exact heap_alloc_old w _ hk1
end

/-- What an offer leaves. -/
def OfferPost (w : World) (B p : Nat) (s : St) (own : Nat → Prop) (r : Bool) (e : Ending) (w' : World) : Prop :=
  e = .returned (.bool r) ∧ QS w' B p s (grow own w w') ∧ But own w w'

set_option maxHeartbeats 8000000 in
theorem offer_c {w : World} {B p : Nat} {s : St} {own : Nat → Prop} (h : QS w B p s own) (A : Option Addr) (c : Nat) (bs : List Int) (whole : Bool) (hn : News w 1 A bs.length (u8s bs)) (hA : ∀ ad, A = some ad → ¬ own ad.block) (hB : B ≤ w.heap.size) (hb : bs.length ≤ 1000 ∧ s.l.length ≤ 1000 ∧ s.lost ≤ 1000000) :
    Calls Try.prog 10 #[.pointer (some ⟨p, 0, none⟩), .slice A bs.length c, .bool whole] w (OfferPost w B p (s.offer bs whole) own (s.room.takes whole)) := by
  have hfull := full_c h
  obtain ⟨hv, lv, vs, h⟩ := h
  obtain ⟨hd, l, most, drops, lost⟩ := s
  simp only [St.offer] at *
  obtain ⟨A0, k0, hlv, _⟩ := q_slice h.lq
  subst hlv
  have H := Aside0.mk h
  have HN := Aside0.mk hn
  have HA := Aside0.mk hA
  clear hn hA
  by_cases hf : most ≤ l.length
  · have e1 : decide (most ≤ l.length) = true := decide_eq_true hf
    rw [e1] at hfull
    have hroom : (St.room ⟨hd, l, most, drops, lost⟩) = ⟨hd, [], most, true, lost + l.length⟩ := by simp [St.room, St.flush, hf]
    rw [hroom]
    obtain ⟨c0, c1, c2, c3, c4, cf⟩ := h.hp.five
    clear h
    go_enter Try.func10, Try.ntmps10
    go_wp2_with fail
    refine hfull.mono ?_
    rintro e w1 ⟨rfl, rfl⟩
    clear hfull
    go_wp2_with fail
    go_region
    go_upto_region 6 with (fail)
    obtain ⟨w1, hw1⟩ : ∃ w1, (((w.setCell ⟨p, 4, none⟩ (.int .i64 ((lost : Int) + (l.length : Int)))).setCell ⟨p, 1, none⟩ (.slice none 0 0)).setCell ⟨p, 3, none⟩ (.bool true)).drew.drew = w1 := ⟨_, rfl⟩
    rw [hw1]
    have hst : QAt w1 B p hd [] most true (lost + l.length) own hv (.slice none 0 0) [] ∧ But own w w1 := by
      rw [← hw1]
      have h1 := ((H.out.setLost (lost + l.length)).nol).setDrops true
      have h2 := ((((But.refl own w).set (p := ⟨p, 4, none⟩) (.inr H.out.op) (.int .i64 ((lost : Int) + (l.length : Int)))).set (p := ⟨p, 1, none⟩) (.inr H.out.op) (.slice none 0 0)).set (p := ⟨p, 3, none⟩) (.inr H.out.op) (.bool true)).drew.drew
      refine ⟨?_, h2⟩
      have h3 := (h1.below ((Below.refl _ _).drew)).below ((Below.refl _ _).drew)
      simpa using h3
    have hsz : w1.heap.size = w.heap.size := by rw [← hw1]; simp
    clear hw1 H c0 c1 c2 c3 c4 cf
    have HSL := Aside0.mk hsz
    clear hsz
    have HN1 := Aside0.mk (News.but HN.out hst.2 HA.out)
    have H1 := Aside0.mk hst
    obtain ⟨c0, c1, c2, c3, c4, cf⟩ := hst.1.hp.five
    clear hst
    cases whole
    · go_wp2_with fail
      refine bodyPost_ret (v := .bool false) (by simp [results, Try.results10, go_sem, *]) rfl ⟨rfl, ?_, ?_⟩
      · have := (H1.out.1.setLost ((lost + l.length) + 1)).wide (own' := grow own w (w1.setCell ⟨p, 4, none⟩ (.int .i64 (((lost + l.length) + 1 : Nat) : Int)))) (fun b hb => .inl hb) (fun b hb => by
          rcases hb with hb | hb
          · have := H1.out.1.lt b hb; simpa using this
          · have := HSL.out; simp at hb ⊢; omega)
        have h3 : Q _ B p _ _ _ _ _ _ := ⟨_, _, _, this⟩
        simpa [QS, St.put] using h3
      · exact H1.out.2.set (.inr H1.out.1.op) _
    · go_upto_region 10 with (fail)
      obtain ⟨w2, hw2⟩ : ∃ w2, w1.setCell ⟨p, 3, none⟩ (.bool false) = w2 := ⟨_, rfl⟩
      rw [hw2]
      have hbt := H1.out.2.set (p := ⟨p, 3, none⟩) (.inr H1.out.1.op) (.bool false)
      have h2 := H1.out.1.setDrops false
      have hn2 := News.but HN1.out ((But.refl own w1).set (p := ⟨p, 3, none⟩) (.inr H1.out.1.op) (.bool false)) HA.out
      have hs2 : w2.heap.size = w.heap.size := by rw [← hw2]; simpa using HSL.out
      have HS2 := Aside0.mk hs2
      have hB2 : B ≤ w2.heap.size := by omega
      clear hs2
      rw [hw2] at hbt h2 hn2
      clear hw2 H1 HN1 c0 c1 c2 c3 c4 cf
      have H2 := Aside0.mk (And.intro h2 hbt)
      have HN2 := Aside0.mk hn2
      obtain ⟨c0, c1, c2, c3, c4, cf⟩ := h2.hp.five
      have hplt := (h2.lt p h2.op).2
      obtain ⟨d0, d1, d2, d3, d4, df⟩ := (Has.alloc h2.hp (.cells #[] 5)).five
      clear h2 hn2 hbt
      go_region_law (first
        | (refine step_append_q T32 rfl (.tmp 52) (.tmp 53) rfl B (.slice (some ⟨w2.heap.size, 0, none⟩) 0 0) 0 [] rfl (q_move (q_empty' w2 B _ 5 1 rfl (by omega)) (fun _ _ => rfl)) A bs.length c (u8s bs) rfl (News.below (News.below HN2.out ((Below.refl _ w2).alloc (Nat.le_refl _) (.cells #[] 5))) (Below.refl _ _).drew) (by unfold maxLen; omega) (by omega) (by simp; omega) ?_
           rintro v3 w3 ⟨hq3, hg3, hat3, _⟩
           have hp3 : Has w3 p 48 [hv, .slice none 0 0, .int .i64 (most : Int), .bool false, .int .i64 ((lost + l.length : Nat))] := (Has.drew (Has.alloc H2.out.1.hp (.cells #[] 5))).grown hg3 (by simp [Value.ownBlock]; omega)
           obtain ⟨e0, e1', e2, e3, e4, ef⟩ := hp3.five
           obtain ⟨A3, k3, hv3, hk3⟩ := q_slice hq3
           subst hv3
           obtain ⟨f0, f1, f2, f3, f4, ff⟩ := (Has.alloc hp3 (.cells #[.slice A3 (0 + bs.length) k3] 32)).five
           simp only [Nat.zero_add, List.nil_append] at *)
        | (refine step_append_q T39 rfl (.tmp 51) (.tmp 55) rfl B (.slice none 0 0) 0 [] rfl (q_put H2.out.1 hg3) (some ⟨w3.heap.size, 0, none⟩) 1 1 [.slice A3 bs.length k3] rfl (one_new w3 32 _ rfl) (by unfold maxLen; omega) (by omega) (by have := hg3.size; simp at this ⊢; omega) ?_
           rintro v4 w4 ⟨hq4, hg4, hat4, _⟩
           have hp4 : Has w4 p 48 [hv, .slice none 0 0, .int .i64 (most : Int), .bool false, .int .i64 ((lost + l.length : Nat))] := (Has.alloc hp3 _).grown hg4 (fun e => H2.out.1.lne p e.symm rfl)
           obtain ⟨g0, g1, g2, g3, g4, gf⟩ := hp4.five
           obtain ⟨A4, k4, hv4, hk4⟩ := q_slice hq4
           subst hv4))
      all_goals
        have hpush := QAt.pushed H2.out.1 hB2 (n := bs.length) rfl (by simp) hq3 hg3 hat3 hq4 hg4 hat4
        have HP := Aside0.mk (And.intro hpush H2.out.2)
        clear hpush hq3 hg3 hat3 hp3 hq4 hg4 hat4 hp4 c0 c1 c2 c3 c4 cf d0 d1 d2 d3 d4 df e0 e1' e2 e3 e4 ef f0 f1 f2 f3 f4 ff g0 g1 g2 g3 g4 gf
        go_wp2_with fail
        refine bodyPost_ret (v := .bool true) (by simp [results, Try.results10, go_sem, *]) rfl ⟨by simp [St.takes], ?_, ?_⟩
        · have h1 := HP.out.1.1
          have h2 := h1.wide (own' := grow own w _) (fun b hb => by
            rcases hb with hb | hb
            · exact .inl hb
            · exact .inr ⟨by have := HS2.out; omega, hb.2⟩) (fun b hb => by
            rcases hb with hb | hb
            · exact h1.lt b (.inl hb)
            · exact h1.lt b (.inr ⟨by have := HS2.out; omega, hb.2⟩))
          have h3 : Q _ B p _ _ _ _ _ _ := ⟨_, _, _, h2⟩
          simpa [QS, St.put] using h3
        · exact HP.out.2.trans HP.out.1.2
  · have e1 : decide (most ≤ l.length) = false := decide_eq_false hf
    rw [e1] at hfull
    have hroom : (St.room ⟨hd, l, most, drops, lost⟩) = ⟨hd, l, most, drops, lost⟩ := by simp [St.room, hf]
    rw [hroom]
    clear h
    go_enter Try.func10, Try.ntmps10
    go_wp2_with fail
    refine hfull.mono ?_
    rintro e w1 ⟨rfl, rfl⟩
    clear hfull
    obtain ⟨w1, hw1⟩ : ∃ w1, w.drew = w1 := ⟨_, rfl⟩
    rw [hw1]
    have hst : QAt w1 B p hd l most drops lost own hv (.slice A0 l.length k0) vs ∧ But own w w1 := by rw [← hw1]; exact ⟨H.out.below ((Below.refl _ w).drew), (But.refl own w).drew⟩
    have hsz : w1.heap.size = w.heap.size := by rw [← hw1]; simp
    clear hw1 H
    go_upto_region 6 with (fail)
    have HSL := Aside0.mk hsz
    clear hsz
    have HN1 := Aside0.mk (News.but HN.out hst.2 HA.out)
    have H1 := Aside0.mk hst
    obtain ⟨c0, c1, c2, c3, c4, cf⟩ := hst.1.hp.five
    clear hst
    cases drops
    · go_upto_region 10 with (fail)
      obtain ⟨w2, hw2⟩ : ∃ w2, w1.setCell ⟨p, 3, none⟩ (.bool false) = w2 := ⟨_, rfl⟩
      rw [hw2]
      have hbt := H1.out.2.set (p := ⟨p, 3, none⟩) (.inr H1.out.1.op) (.bool false)
      have h2 := H1.out.1.setDrops false
      have hn2 := News.but HN1.out ((But.refl own w1).set (p := ⟨p, 3, none⟩) (.inr H1.out.1.op) (.bool false)) HA.out
      have hs2 : w2.heap.size = w.heap.size := by rw [← hw2]; simpa using HSL.out
      have HS2 := Aside0.mk hs2
      have hB2 : B ≤ w2.heap.size := by omega
      clear hs2
      rw [hw2] at hbt h2 hn2
      clear hw2 H1 HN1 c0 c1 c2 c3 c4 cf
      have H2 := Aside0.mk (And.intro h2 hbt)
      have HN2 := Aside0.mk hn2
      obtain ⟨c0, c1, c2, c3, c4, cf⟩ := h2.hp.five
      have hplt := (h2.lt p h2.op).2
      obtain ⟨d0, d1, d2, d3, d4, df⟩ := (Has.alloc h2.hp (.cells #[] 5)).five
      clear h2 hn2 hbt
      go_region_law (first
        | (refine step_append_q T32 rfl (.tmp 52) (.tmp 53) rfl B (.slice (some ⟨w2.heap.size, 0, none⟩) 0 0) 0 [] rfl (q_move (q_empty' w2 B _ 5 1 rfl (by omega)) (fun _ _ => rfl)) A bs.length c (u8s bs) rfl (News.below (News.below HN2.out ((Below.refl _ w2).alloc (Nat.le_refl _) (.cells #[] 5))) (Below.refl _ _).drew) (by unfold maxLen; omega) (by omega) (by simp; omega) ?_
           rintro v3 w3 ⟨hq3, hg3, hat3, _⟩
           have hp3 : Has w3 p 48 [hv, .slice A0 l.length k0, .int .i64 (most : Int), .bool false, .int .i64 ((lost : Int))] := (Has.drew (Has.alloc H2.out.1.hp (.cells #[] 5))).grown hg3 (by simp [Value.ownBlock]; omega)
           obtain ⟨e0, e1', e2, e3, e4, ef⟩ := hp3.five
           obtain ⟨A3, k3, hv3, hk3⟩ := q_slice hq3
           subst hv3
           obtain ⟨f0, f1, f2, f3, f4, ff⟩ := (Has.alloc hp3 (.cells #[.slice A3 (0 + bs.length) k3] 32)).five
           simp only [Nat.zero_add, List.nil_append] at *)
        | (refine step_append_q T39 rfl (.tmp 51) (.tmp 55) rfl B (.slice A0 l.length k0) l.length vs rfl (q_put H2.out.1 hg3) (some ⟨w3.heap.size, 0, none⟩) 1 1 [.slice A3 bs.length k3] rfl (one_new w3 32 _ rfl) (by unfold maxLen; omega) (by omega) (by have := hg3.size; simp at this ⊢; omega) ?_
           rintro v4 w4 ⟨hq4, hg4, hat4, _⟩
           have hp4 : Has w4 p 48 [hv, .slice A0 l.length k0, .int .i64 (most : Int), .bool false, .int .i64 ((lost : Int))] := (Has.alloc hp3 _).grown hg4 (fun e => H2.out.1.lne p e.symm rfl)
           obtain ⟨g0, g1, g2, g3, g4, gf⟩ := hp4.five
           obtain ⟨A4, k4, hv4, hk4⟩ := q_slice hq4
           subst hv4))
      all_goals
        have hpush := QAt.pushed H2.out.1 hB2 (n := bs.length) rfl (by simp) hq3 hg3 hat3 hq4 hg4 hat4
        have HP := Aside0.mk (And.intro hpush H2.out.2)
        clear hpush hq3 hg3 hat3 hp3 hq4 hg4 hat4 hp4 c0 c1 c2 c3 c4 cf d0 d1 d2 d3 d4 df e0 e1' e2 e3 e4 ef f0 f1 f2 f3 f4 ff g0 g1 g2 g3 g4 gf
        go_wp2_with fail
        refine bodyPost_ret (v := .bool true) (by simp [results, Try.results10, go_sem, *]) rfl ⟨by simp [St.takes], ?_, ?_⟩
        · have h1 := HP.out.1.1
          have h2 := h1.wide (own' := grow own w _) (fun b hb => by
            rcases hb with hb | hb
            · exact .inl hb
            · exact .inr ⟨by have := HS2.out; omega, hb.2⟩) (fun b hb => by
            rcases hb with hb | hb
            · exact h1.lt b (.inl hb)
            · exact h1.lt b (.inr ⟨by have := HS2.out; omega, hb.2⟩))
          have h3 : Q _ B p _ _ _ _ _ _ := ⟨_, _, _, h2⟩
          simpa [QS, St.put] using h3
        · exact HP.out.2.trans HP.out.1.2
    cases whole
    · go_wp2_with fail
      refine bodyPost_ret (v := .bool false) (by simp [results, Try.results10, go_sem, *]) rfl ⟨rfl, ?_, ?_⟩
      · have := (H1.out.1.setLost (lost + 1)).wide (own' := grow own w (w1.setCell ⟨p, 4, none⟩ (.int .i64 ((lost + 1 : Nat) : Int)))) (fun b hb => .inl hb) (fun b hb => by
          rcases hb with hb | hb
          · have := H1.out.1.lt b hb; simpa using this
          · have := HSL.out; simp at hb ⊢; omega)
        have h3 : Q _ B p _ _ _ _ _ _ := ⟨_, _, _, this⟩
        simpa [QS, St.put] using h3
      · exact H1.out.2.set (.inr H1.out.1.op) _
    · go_upto_region 10 with (fail)
      obtain ⟨w2, hw2⟩ : ∃ w2, w1.setCell ⟨p, 3, none⟩ (.bool false) = w2 := ⟨_, rfl⟩
      rw [hw2]
      have hbt := H1.out.2.set (p := ⟨p, 3, none⟩) (.inr H1.out.1.op) (.bool false)
      have h2 := H1.out.1.setDrops false
      have hn2 := News.but HN1.out ((But.refl own w1).set (p := ⟨p, 3, none⟩) (.inr H1.out.1.op) (.bool false)) HA.out
      have hs2 : w2.heap.size = w.heap.size := by rw [← hw2]; simpa using HSL.out
      have HS2 := Aside0.mk hs2
      have hB2 : B ≤ w2.heap.size := by omega
      clear hs2
      rw [hw2] at hbt h2 hn2
      clear hw2 H1 HN1 c0 c1 c2 c3 c4 cf
      have H2 := Aside0.mk (And.intro h2 hbt)
      have HN2 := Aside0.mk hn2
      obtain ⟨c0, c1, c2, c3, c4, cf⟩ := h2.hp.five
      have hplt := (h2.lt p h2.op).2
      obtain ⟨d0, d1, d2, d3, d4, df⟩ := (Has.alloc h2.hp (.cells #[] 5)).five
      clear h2 hn2 hbt
      go_region_law (first
        | (refine step_append_q T32 rfl (.tmp 52) (.tmp 53) rfl B (.slice (some ⟨w2.heap.size, 0, none⟩) 0 0) 0 [] rfl (q_move (q_empty' w2 B _ 5 1 rfl (by omega)) (fun _ _ => rfl)) A bs.length c (u8s bs) rfl (News.below (News.below HN2.out ((Below.refl _ w2).alloc (Nat.le_refl _) (.cells #[] 5))) (Below.refl _ _).drew) (by unfold maxLen; omega) (by omega) (by simp; omega) ?_
           rintro v3 w3 ⟨hq3, hg3, hat3, _⟩
           have hp3 : Has w3 p 48 [hv, .slice A0 l.length k0, .int .i64 (most : Int), .bool false, .int .i64 ((lost : Int))] := (Has.drew (Has.alloc H2.out.1.hp (.cells #[] 5))).grown hg3 (by simp [Value.ownBlock]; omega)
           obtain ⟨e0, e1', e2, e3, e4, ef⟩ := hp3.five
           obtain ⟨A3, k3, hv3, hk3⟩ := q_slice hq3
           subst hv3
           obtain ⟨f0, f1, f2, f3, f4, ff⟩ := (Has.alloc hp3 (.cells #[.slice A3 (0 + bs.length) k3] 32)).five
           simp only [Nat.zero_add, List.nil_append] at *)
        | (refine step_append_q T39 rfl (.tmp 51) (.tmp 55) rfl B (.slice A0 l.length k0) l.length vs rfl (q_put H2.out.1 hg3) (some ⟨w3.heap.size, 0, none⟩) 1 1 [.slice A3 bs.length k3] rfl (one_new w3 32 _ rfl) (by unfold maxLen; omega) (by omega) (by have := hg3.size; simp at this ⊢; omega) ?_
           rintro v4 w4 ⟨hq4, hg4, hat4, _⟩
           have hp4 : Has w4 p 48 [hv, .slice A0 l.length k0, .int .i64 (most : Int), .bool false, .int .i64 ((lost : Int))] := (Has.alloc hp3 _).grown hg4 (fun e => H2.out.1.lne p e.symm rfl)
           obtain ⟨g0, g1, g2, g3, g4, gf⟩ := hp4.five
           obtain ⟨A4, k4, hv4, hk4⟩ := q_slice hq4
           subst hv4))
      all_goals
        have hpush := QAt.pushed H2.out.1 hB2 (n := bs.length) rfl (by simp) hq3 hg3 hat3 hq4 hg4 hat4
        have HP := Aside0.mk (And.intro hpush H2.out.2)
        clear hpush hq3 hg3 hat3 hp3 hq4 hg4 hat4 hp4 c0 c1 c2 c3 c4 cf d0 d1 d2 d3 d4 df e0 e1' e2 e3 e4 ef f0 f1 f2 f3 f4 ff g0 g1 g2 g3 g4 gf
        go_wp2_with fail
        refine bodyPost_ret (v := .bool true) (by simp [results, Try.results10, go_sem, *]) rfl ⟨by simp [St.takes], ?_, ?_⟩
        · have h1 := HP.out.1.1
          have h2 := h1.wide (own' := grow own w _) (fun b hb => by
            rcases hb with hb | hb
            · exact .inl hb
            · exact .inr ⟨by have := HS2.out; omega, hb.2⟩) (fun b hb => by
            rcases hb with hb | hb
            · exact h1.lt b (.inl hb)
            · exact h1.lt b (.inr ⟨by have := HS2.out; omega, hb.2⟩))
          have h3 : Q _ B p _ _ _ _ _ _ := ⟨_, _, _, h2⟩
          simpa [QS, St.put] using h3
        · exact HP.out.2.trans HP.out.1.2
end Go.Proofs.Ytdfpfchkiogkgaa.Own
