/-
  The law's own model of a queue: what it holds, and its functions flush and offer by their contracts.
-/
import Derived.Test.YtdfpfchkiogkgaaArgs
set_option linter.unusedVariables false
set_option linter.unusedSimpArgs false
namespace Go.Proofs.Ytdfpfchkiogkgaa.Own
open Go.RowKit Go.Proofs.YtdfpfchkiogkgaaW.PrintWords Go.Proofs.YtdfpfchkiogkgaaW.PrintMore Go.Proofs.Ytdfpfchkiogkgaa.H

/-- Bytes that are read: at an address that neither the model's cells (block m) nor its packets' slices (lv) hold. -/
def Rd (w : World) (B m : Nat) (mo : Nat → Prop) (lv v : Value) (bs : List Int) : Prop :=
  ∃ A c, v = .slice A bs.length c ∧ bs.length ≤ c ∧ News w 1 A bs.length (u8s bs) ∧ (0 < bs.length → ∀ ad, A = some ad → (ad.block < B ∨ mo ad.block) ∧ ad.block ≠ m ∧ lv.ownBlock ≠ some ad.block)

structure MAt (w : World) (B m : Nat) (s : St) (mo : Nat → Prop) (hv lv : Value) (vs : List Value) : Prop where
  hp : Has w m 41 [hv, lv, .int .i64 (s.most : Int), .bool s.drops, .int .i64 (s.lost : Int)]
  hh : Rd w B m mo lv hv s.hd
  lq : QRow w B 32 1 lv s.l.length vs
  pk : ∀ (i : Nat) (v : Value) (bs : List Int), vs[i]? = some v → s.l[i]? = some bs → Rd w B m mo lv v bs
  op : mo m
  ol : ∀ k, lv.ownBlock = some k → mo k
  lt : ∀ b, mo b → B ≤ b ∧ b < w.heap.size

def MS (w : World) (B m : Nat) (s : St) (mo : Nat → Prop) : Prop := ∃ hv lv vs, MAt w B m s mo hv lv vs

theorem cell_block {w : World} {m : Nat} {A : Option Addr} {xs : List Value} (h : News w 1 A m xs) (hm : 0 < m) : ∀ ad, A = some ad → ad.block < w.heap.size := by
  intro ad hA
  obtain ⟨ad', hA', hc⟩ := h.2.2 hm
  rw [hA] at hA'
  injection hA' with e
  subst e
  have hl : 0 < xs.length := by rw [h.1]; omega
  have := World.block_lt_of_cell? w _ (hc 0 xs[0] (by simp [hl]))
  rwa [addr_block] at this

section
variable {S mo mo' : Nat → Prop} {w w1 : World} {B m : Nat} {s : St} {hv lv v : Value} {vs : List Value} {bs : List Int}
/-- What reads stays, where the block that is read stays. -/
theorem Rd.move (h : Rd w B m mo lv v bs) (hb : ∀ k, k < w.heap.size → (k < B ∨ mo k) → k ≠ m → lv.ownBlock ≠ some k → w1.heap[k]? = w.heap[k]?) : Rd w1 B m mo lv v bs := by
  obtain ⟨A, c, rfl, hc, hn, ha⟩ := h
  refine ⟨A, c, rfl, hc, ⟨hn.1, hn.2.1, fun h0 => ?_⟩, ha⟩
  obtain ⟨ad, hA, hcell⟩ := hn.2.2 h0
  obtain ⟨h1, h2, h3⟩ := ha h0 ad hA
  refine ⟨ad, hA, fun j u hu => ?_⟩
  refine (World.cell?_of_block ?_).trans (hcell j u hu)
  rw [addr_block]
  exact hb _ (cell_block hn h0 ad hA) h1 h2 h3
theorem Rd.as (h : Rd w B m mo lv v bs) (ho : ∀ b, mo b → mo' b) {lv' : Value} (hl : ∀ k, (k < B ∨ mo k) → k < w.heap.size → lv.ownBlock ≠ some k → lv'.ownBlock ≠ some k) : Rd w B m mo' lv' v bs := by
  obtain ⟨A, c, rfl, hc, hn, ha⟩ := h
  refine ⟨A, c, rfl, hc, hn, fun h0 ad hA => ?_⟩
  obtain ⟨h1, h2, h3⟩ := ha h0 ad hA
  exact ⟨h1.imp id (ho _), h2, hl _ h1 (cell_block hn h0 ad hA) h3⟩
theorem MAt.vlen (h : MAt w B m s mo hv lv vs) : vs.length = s.l.length := by simpa using h.lq.1
theorem MAt.lne (h : MAt w B m s mo hv lv vs) : ∀ k, lv.ownBlock = some k → k ≠ m := typed_ne h.lq h.hp (by decide)
theorem MAt.but (h : MAt w B m s mo hv lv vs) (hb : But S w w1) (hs : ∀ b, b < w.heap.size → (b < B ∨ mo b) → ¬ S b) : MAt w1 B m s mo hv lv vs := by
  have mv : ∀ k, k < w.heap.size → (k < B ∨ mo k) → k ≠ m → lv.ownBlock ≠ some k → w1.heap[k]? = w.heap[k]? := fun k hk h1 _ _ => hb.block k hk (hs k hk h1)
  exact ⟨h.hp.but hb (hs m h.hp.lt (.inr h.op)), h.hh.move mv, q_but h.lq hb (fun k hk => hs k (q_lt h.lq k hk) (.inr (h.ol k hk))), fun i v bs hi hbs => (h.pk i v bs hi hbs).move mv, h.op, h.ol, fun b hb' => ⟨(h.lt b hb').1, Nat.lt_of_lt_of_le (h.lt b hb').2 hb.size⟩⟩
theorem MAt.wide (h : MAt w B m s mo hv lv vs) (ho : ∀ b, mo b → mo' b) (hlt : ∀ b, mo' b → B ≤ b ∧ b < w.heap.size) : MAt w B m s mo' hv lv vs :=
  ⟨h.hp, h.hh.as ho (fun _ _ _ h => h), h.lq, fun i v bs hi hbs => (h.pk i v bs hi hbs).as ho (fun _ _ _ h => h), ho m h.op, fun k hk => ho k (h.ol k hk), hlt⟩
theorem MS.but (h : MS w B m s mo) (hb : But S w w1) (hs : ∀ b, b < w.heap.size → (b < B ∨ mo b) → ¬ S b) : MS w1 B m s mo := by
  obtain ⟨hv, lv, vs, h⟩ := h
  exact ⟨hv, lv, vs, h.but hb hs⟩
theorem MS.below (h : MS w B m s mo) (hb : Below w.heap.size w w1) : MS w1 B m s mo := h.but (S := fun _ => False) (But.of_below hb) (fun _ _ _ h => h)
theorem MAt.below (h : MAt w B m s mo hv lv vs) (hb : Below w.heap.size w w1) : MAt w1 B m s mo hv lv vs := h.but (S := fun _ => False) (But.of_below hb) (fun _ _ _ h => h)
theorem MS.lt (h : MS w B m s mo) : ∀ b, mo b → B ≤ b ∧ b < w.heap.size := by obtain ⟨_, _, _, h⟩ := h; exact h.lt
/-- The model's cells but the first two are set. -/
theorem MAt.at_m (h : MAt w B m s mo hv lv vs) {i : Nat} {u : Value} {dr : Bool} {lo : Nat} (hp : Has (w.setCell ⟨m, i, none⟩ u) m 41 [hv, lv, .int .i64 (s.most : Int), .bool dr, .int .i64 (lo : Int)]) :
    MAt (w.setCell ⟨m, i, none⟩ u) B m { s with drops := dr, lost := lo } mo hv lv vs := by
  have mv : ∀ k, k < w.heap.size → (k < B ∨ mo k) → k ≠ m → lv.ownBlock ≠ some k → (w.setCell ⟨m, i, none⟩ u).heap[k]? = w.heap[k]? := fun k hk _ h1 _ => Below.heap_setCell w _ u k h1
  exact ⟨hp, h.hh.move mv, q_far h.lq h.lne _, fun i v bs hi hbs => (h.pk i v bs hi hbs).move mv, h.op, h.ol, fun b hb => by have := h.lt b hb; simpa using this⟩
theorem MAt.setDrops (h : MAt w B m s mo hv lv vs) (b : Bool) : MAt (w.setCell ⟨m, 3, none⟩ (.bool b)) B m { s with drops := b } mo hv lv vs :=
  h.at_m (h.hp.set 3 _)
theorem MAt.setLost (h : MAt w B m s mo hv lv vs) (n : Nat) : MAt (w.setCell ⟨m, 4, none⟩ (.int .i64 (n : Int))) B m { s with lost := n } mo hv lv vs :=
  h.at_m (h.hp.set 4 _)
theorem MAt.nol (h : MAt w B m s mo hv lv vs) : MAt (w.setCell ⟨m, 1, none⟩ (.slice none 0 0)) B m { s with l := [] } mo hv (.slice none 0 0) [] := by
  have mv : ∀ k, k < w.heap.size → (k < B ∨ mo k) → k ≠ m → lv.ownBlock ≠ some k → (w.setCell ⟨m, 1, none⟩ (.slice none 0 0)).heap[k]? = w.heap[k]? := fun k hk _ h1 _ => Below.heap_setCell w _ _ k h1
  exact ⟨h.hp.set 1 _, (h.hh.move mv).as (fun _ h => h) (fun k _ _ _ => by simp [Value.ownBlock]), q_nil _ _ _, fun i v bs hi => by simp at hi, h.op, fun k hk => by simp [Value.ownBlock] at hk, fun b hb => by have := h.lt b hb; simpa using this⟩
/-- A packet is put behind the others. -/
theorem MAt.pushed (h : MAt w B m s mo hv lv vs) {w4 : World} {pkt lv' : Value} {n : Nat} (hn : n = s.l.length + 1) (hpk : Rd w B m mo lv pkt bs)
    (hq4 : QRow w4 B 32 1 lv' n (vs ++ [pkt])) (hg4 : (w.alloc (.cells #[pkt] 32)).grownBy w4 lv.ownBlock) (hat4 : lv'.ownBlock = lv.ownBlock ∨ ∃ b, lv'.ownBlock = some b ∧ (w.alloc (.cells #[pkt] 32)).heap.size ≤ b) :
    MAt (w4.setCell ⟨m, 1, none⟩ lv') B m { s with l := s.l ++ [bs] } (grow mo w (w4.setCell ⟨m, 1, none⟩ lv')) hv lv' (vs ++ [pkt]) ∧ But mo w (w4.setCell ⟨m, 1, none⟩ lv') := by
  subst hn
  have hs4 : w.heap.size + 1 ≤ w4.heap.size := by have := hg4.size; simpa using this
  have hk4 : ∀ k, k < w.heap.size → lv.ownBlock ≠ some k → w4.heap[k]? = w.heap[k]? := by
    intro k hk hne
    rw [hg4.block k (by simp; omega) (fun e => hne e.symm)]
    exact heap_alloc_old w _ hk
  have mv : ∀ k, k < w.heap.size → (k < B ∨ mo k) → k ≠ m → lv.ownBlock ≠ some k → (w4.setCell ⟨m, 1, none⟩ lv').heap[k]? = w.heap[k]? := by
    intro k hk _ hkm hne
    rw [Below.heap_setCell _ _ _ k hkm, hk4 k hk hne]
  have hlv' : ∀ k, lv'.ownBlock = some k → (lv.ownBlock = some k) ∨ (w.heap.size ≤ k ∧ k < w4.heap.size) := by
    intro k hk
    rcases hat4 with hat | ⟨b, hat, hb⟩
    · rw [hat] at hk; exact .inl hk
    · have := q_lt hq4 k hk
      rw [hat] at hk; simp at hk hb; right; omega
  have hB : B ≤ w.heap.size := by have := h.lt m h.op; omega
  have hp4 : Has w4 m 41 [hv, lv, .int .i64 (s.most : Int), .bool s.drops, .int .i64 (s.lost : Int)] := (hk4 m h.hp.lt (fun e => h.lne m e rfl)).trans h.hp
  have hne4 : ∀ k, lv'.ownBlock = some k → k ≠ m := typed_ne hq4 hp4 (by decide)
  have hsz : (w4.setCell ⟨m, 1, none⟩ lv').heap.size = w4.heap.size := by simp
  have hrd : ∀ {v : Value} {b : List Int}, Rd w B m mo lv v b → Rd (w4.setCell ⟨m, 1, none⟩ lv') B m (grow mo w (w4.setCell ⟨m, 1, none⟩ lv')) lv' v b := by
    intro v b hr
    have hr0 := hr
    obtain ⟨A, c, rfl, hc, hn, ha⟩ := hr
    obtain ⟨A', c', e, hc', hn', _⟩ := hr0.move mv
    injection e with e1 e2 e3
    subst e1; subst e3
    refine ⟨A, c, rfl, hc, hn', fun h0 ad hA => ?_⟩
    obtain ⟨h1, h2, h3⟩ := ha h0 ad hA
    have hlt := cell_block hn h0 ad hA
    refine ⟨h1.imp id .inl, h2, fun e => ?_⟩
    rcases hlv' _ e with h4 | h4
    · exact h3 h4
    · omega
  refine ⟨⟨hp4.set 1 _, hrd h.hh, ?_, ?_, .inl h.op, ?_, ?_⟩, ?_⟩
  · have := q_far hq4 (p := ⟨m, 1, none⟩) hne4 lv'
    simpa using this
  · intro i v b hi hb
    have hvl := h.vlen
    by_cases hil : i < s.l.length
    · rw [List.getElem?_append_left (by omega)] at hi
      have hb : (s.l ++ [bs])[i]? = some b := hb
      rw [List.getElem?_append_left hil] at hb
      exact hrd (h.pk i v b hi hb)
    · have hb : (s.l ++ [bs])[i]? = some b := hb
      have hi2 := (List.getElem?_eq_some_iff.1 hi).1
      have hie : i = s.l.length := by simp at hi2; omega
      subst hie
      rw [List.getElem?_append_right (by omega), hvl] at hi
      simp at hi hb
      subst hi hb
      exact hrd hpk
  · intro k hk
    rcases hlv' k hk with h1 | h1
    · exact .inl (h.ol k h1)
    · exact .inr (by simpa using h1)
  · intro b hb'
    rcases hb' with hb' | hb'
    · have := h.lt b hb'; simp; omega
    · simp at hb' ⊢; omega
  · refine But.set ⟨?_, ?_, ?_, by omega, fun k hk hs => ?_⟩ (.inr h.op) _
    · exact hg4.os.trans (show (w.alloc _).os = w.os from rfl)
    · exact hg4.tape.trans (show (w.alloc _).tape = w.tape from rfl)
    · exact hg4.output.trans (show (w.alloc _).output = w.output from rfl)
    · rw [hk4 k hk (fun e => hs (h.ol k e))]

/-- What a flush of the model leaves. -/
def MFlushPost (w : World) (B m : Nat) (s : St) (mo : Nat → Prop) (e : Ending) (w' : World) : Prop :=
  e = .returned (.tuple #[]) ∧ MS w' B m s.flush mo ∧ But mo w w' ∧ w'.heap.size = w.heap.size
theorem mflush_c (h : MS w B m s mo) (hb : s.lost ≤ 1000000 ∧ s.l.length ≤ 1000) : Calls Try.prog 15 #[.pointer (some ⟨m, 0, none⟩)] w (MFlushPost w B m s mo) := by
  obtain ⟨hv, lv, vs, h⟩ := h
  obtain ⟨hd, l, most, drops, lost⟩ := s
  obtain ⟨A1, k1, rfl, _⟩ := q_slice h.lq
  obtain ⟨c0, c1, c2, c3, c4, cf⟩ := h.hp.five
  have HQ := Aside0.mk h
  clear h
  go_enter Try.func15, Try.ntmps15
  go_wp2_with fail
  go_region
  go_wp2_with fail
  refine bodyPost_ret (v := .tuple #[]) (by simp [results, Try.results15, go_sem, *]) rfl ⟨rfl, ?_, ?_, by simp⟩
  · have h1 := ((HQ.out.setLost (lost + l.length)).nol).setDrops true
    exact ⟨_, _, _, by simpa [St.flush] using h1.below (Below.refl _ _).drew⟩
  · exact ((((But.refl mo w).set (p := ⟨m, 4, none⟩) (.inr HQ.out.op) _).set (p := ⟨m, 1, none⟩) (.inr HQ.out.op) _).set (p := ⟨m, 3, none⟩) (.inr HQ.out.op) _).drew
end
end Go.Proofs.Ytdfpfchkiogkgaa.Own
