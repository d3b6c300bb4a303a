/-
  The queue's functions by their contracts: what each computes and what it leaves of memory.
-/
import Derived.Test.YtdfpfchkiogkgaaProg
import Derived.Test.YtdfpfchkiogkgaaH
import Derived.Test.YtdfpfchkiogkgaaWMore
import Derived.Deep.QuietTactic
import Derived.BigQuiet
import Derived.WalkSpells
import Derived.WalkLawsBesides
import Derived.Deep.RegionHeld3
import Derived.Deep.RegionLaw
set_option linter.unusedVariables false
set_option linter.unusedSimpArgs false
namespace Go.Proofs.Ytdfpfchkiogkgaa.Own
open Go.RowKit Go.Proofs.YtdfpfchkiogkgaaW.PrintWords Go.Proofs.YtdfpfchkiogkgaaW.PrintMore Go.Proofs.Ytdfpfchkiogkgaa.H

theorem T32 : SlT Try.prog 32 5 (.int .u8 0) 1 1 := SlT.mk' Try.underlying32 (by kernel_rfl) rfl (by decide)
theorem T39 : SlT Try.prog 39 32 (.slice none 0 0) 1 24 := SlT.mk' Try.underlying39 (by kernel_rfl) rfl (by decide)

def u8s (bs : List Int) : List Value := bs.map (fun (n : Int) => Value.int .u8 n)
theorem u8s_len (bs : List Int) : (u8s bs).length = bs.length := by simp [u8s]

theorem step_append_q {P : Program} {t e : TypeId} {z : Value} {size bytes : Nat} (T : SlT P t e z size bytes) {ops : Array Oper} {o : Oper} {a : Act} {w : World} {K : Act → World → Prop} {Q : Exit → Act → World → Prop} {E : Prop}
    (hg : o.guard = none) (s x : Operand) (hop : o.op = Op.call { callee := Callee.builtin Builtin.append, args := #[s, x], argTypes := #[t, t] })
    (base : Nat) (v : Value) (n : Nat) (xs : List Value) (hs : a.eval s = v) (hown : QRow w base e size v n xs)
    (ao : Option Addr) (m c : Nat) (news : List Value) (hx : a.eval x = .slice ao m c) (hn : News w size ao m news) (h63 : n + m ≤ maxLen) (hbytes : (n + m) * bytes ≤ 140737488355328) (hbase : base ≤ w.heap.size)
    (hK : ∀ v' w', Appended w base e size v n m xs news v' w' → K (a.put o.dst v') w') :
    if Region.wanted o (yielded ops a.tmps) = true then Oper.wp P o a w K Q else E := by
  have hw : Region.wanted o (yielded ops a.tmps) = true := by simp [Region.wanted, hg]
  rw [if_pos hw]
  exact wp_append_q T w s x hop base v n xs hs hown ao m c news hx hn h63 hbytes hbase hK

/-- Two values that own no block in common. -/
def Apart (v v' : Value) : Prop := ∀ k, v.ownBlock = some k → v'.ownBlock ≠ some k

/-- A queue at block p: its cells, its bytes ahead, its packets, each in a block of its own. -/
structure QAt (w : World) (B p : Nat) (hd : List Int) (l : List (List Int)) (most : Nat) (drops : Bool) (lost : Nat) (own : Nat → Prop) (hv lv : Value) (vs : List Value) : Prop where
  hp : Has w p 48 [hv, lv, .int .i64 (most : Int), .bool drops, .int .i64 (lost : Int)]
  hq : QRow w B 5 1 hv hd.length (u8s hd)
  lq : QRow w B 32 1 lv l.length vs
  pk : ∀ (i : Nat) (v : Value) (bs : List Int), vs[i]? = some v → l[i]? = some bs → QRow w B 5 1 v bs.length (u8s bs)
  ap : (hv :: vs).Pairwise Apart
  op : own p
  ov : ∀ v, v ∈ hv :: lv :: vs → ∀ k, v.ownBlock = some k → own k
  lt : ∀ b, own b → B ≤ b ∧ b < w.heap.size

def Q (w : World) (B p : Nat) (hd : List Int) (l : List (List Int)) (most : Nat) (drops : Bool) (lost : Nat) (own : Nat → Prop) : Prop :=
  ∃ hv lv vs, QAt w B p hd l most drops lost own hv lv vs

/-- The footprint and what was made since. -/
def grow (own : Nat → Prop) (w w' : World) (b : Nat) : Prop := own b ∨ (w.heap.size ≤ b ∧ b < w'.heap.size)

section
variable {S own own' : Nat → Prop} {w w1 : World} {B p most lost : Nat} {hd : List Int} {l : List (List Int)} {drops : Bool} {hv lv : Value} {vs : List Value}
theorem QAt.vlen (h : QAt w B p hd l most drops lost own hv lv vs) : vs.length = l.length := by simpa using h.lq.1
theorem QAt.but (h : QAt w B p hd l most drops lost own hv lv vs) (hb : But S w w1) (hs : ∀ b, own b → ¬ S b) : QAt w1 B p hd l most drops lost own hv lv vs := by
  refine ⟨h.hp.but hb (hs p h.op), q_but h.hq hb (fun k hk => hs k (h.ov hv (by simp) k hk)), q_but h.lq hb (fun k hk => hs k (h.ov lv (by simp) k hk)), fun i v bs hi hbs => q_but (h.pk i v bs hi hbs) hb (fun k hk => hs k (h.ov v (by simp [List.mem_of_getElem? hi]) k hk)), h.ap, h.op, h.ov, fun b hb' => ⟨(h.lt b hb').1, Nat.lt_of_lt_of_le (h.lt b hb').2 hb.size⟩⟩
theorem QAt.wide (h : QAt w B p hd l most drops lost own hv lv vs) (ho : ∀ b, own b → own' b) (hlt : ∀ b, own' b → B ≤ b ∧ b < w.heap.size) : QAt w B p hd l most drops lost own' hv lv vs :=
  ⟨h.hp, h.hq, h.lq, h.pk, h.ap, ho p h.op, fun v hv' k hk => ho k (h.ov v hv' k hk), hlt⟩
theorem typed_ne {e E n : Nat} {v : Value} {xs cs : List Value} (h : QRow w B e 1 v n xs) (hp : Has w p E cs) (hne : e ≠ E) : ∀ k, v.ownBlock = some k → k ≠ p := by
  intro k hk ek
  subst ek
  obtain ⟨_, cur, hc⟩ := q_typed h k hk
  have := hc.symm.trans hp.out
  simp at this
  exact hne this.2
theorem QAt.hne (h : QAt w B p hd l most drops lost own hv lv vs) : ∀ k, hv.ownBlock = some k → k ≠ p := typed_ne h.hq h.hp (by decide)
theorem QAt.lne (h : QAt w B p hd l most drops lost own hv lv vs) : ∀ k, lv.ownBlock = some k → k ≠ p := typed_ne h.lq h.hp (by decide)
theorem QAt.vne (h : QAt w B p hd l most drops lost own hv lv vs) (v : Value) (hv' : v ∈ vs) : ∀ k, v.ownBlock = some k → k ≠ p := by
  obtain ⟨i, hi⟩ := List.getElem?_of_mem hv'
  have hlt : i < l.length := by rw [← h.vlen]; exact (List.getElem?_eq_some_iff.1 hi).1
  exact typed_ne (h.pk i v l[i] hi (by simp [hlt])) h.hp (by decide)
theorem Q.but (h : Q w B p hd l most drops lost own) (hb : But S w w1) (hs : ∀ b, own b → ¬ S b) : Q w1 B p hd l most drops lost own := by
  obtain ⟨hv, lv, vs, h⟩ := h
  exact ⟨hv, lv, vs, h.but hb hs⟩
theorem Q.below (h : Q w B p hd l most drops lost own) (hb : Below w.heap.size w w1) : Q w1 B p hd l most drops lost own := h.but (S := fun _ => False) (But.of_below hb) (fun _ _ h => h)
theorem QAt.below (h : QAt w B p hd l most drops lost own hv lv vs) (hb : Below w.heap.size w w1) : QAt w1 B p hd l most drops lost own hv lv vs := h.but (S := fun _ => False) (But.of_below hb) (fun _ _ h => h)
theorem Q.lt (h : Q w B p hd l most drops lost own) : ∀ b, own b → B ≤ b ∧ b < w.heap.size := by obtain ⟨_, _, _, h⟩ := h; exact h.lt
end

def Quiet (v : Value) (w : World) (e : Ending) (w' : World) : Prop := e = .returned v ∧ w = w'
theorem Quiet.turn {v : Value} {w : World} {e : Ending} {w' : World} (h : Quiet v w e w') : e = .returned v ∧ w' = w := ⟨h.1, h.2.symm⟩

theorem new_bad (n : Int) (h : n < 1 ∨ n > 256) (w : World) : Calls Try.prog 8 #[.int .i64 n] w (Quiet (.tuple #[.pointer none, .int .i64 1]) w) := by
  have h' : decide (n < 1) = true ∨ (decide (n < 1) = false ∧ decide (256 < n) = true) := by simp only [decide_eq_true_eq, decide_eq_false_iff_not]; omega
  clear h
  rcases h' with d1 | ⟨d1, d2⟩
  all_goals
    go_enter Try.func8, Try.ntmps8
    go_wp2_with fail
    go_ret2
    exact ⟨rfl, rfl⟩

theorem q_nil (w : World) (base e : Nat) : QRow w base e 1 (.slice none 0 0) 0 [] := ⟨by simp, .inl ⟨rfl, none, rfl, fun a ha => by cases ha⟩⟩
theorem apart_nil (v : Value) : Apart (.slice none 0 0) v := fun k hk => by simp [Value.ownBlock] at hk

def NewPost (w : World) (n : Nat) (e : Ending) (w' : World) : Prop := e = .returned (.tuple #[.pointer (some ⟨w.heap.size, 0, none⟩), .int .i64 0]) ∧ Q w' w.heap.size w.heap.size [] [] n true 0 (fun b => b = w.heap.size) ∧ Below w.heap.size w w'
theorem new_c (n : Nat) (h : 1 ≤ n ∧ n ≤ 256) (w : World) : Calls Try.prog 8 #[.int .i64 (n : Int)] w (NewPost w n) := by
  have d1 : decide ((n : Int) < 1) = false := by simp; omega
  have d2 : decide (256 < (n : Int)) = false := by simp; omega
  have d3 : decide (256 < n) = false := decide_eq_false (by omega)
  go_enter Try.func8, Try.ntmps8
  go_wp2_with fail
  go_ret2
  refine ⟨rfl, ⟨.slice none 0 0, .slice none 0 0, [], ⟨Has.new w 48 [_, _, _, _, _], q_nil _ _ _, q_nil _ _ _, fun i v bs hi => by simp at hi, by simp, rfl, ?_, ?_⟩⟩, (Below.refl _ w).alloc (Nat.le_refl _) _⟩
  · intro v hv k hk
    simp at hv
    subst hv
    simp [Value.ownBlock] at hk
  · intro b hb
    subst hb
    simp

theorem lost_nil (w : World) : Calls Try.prog 17 #[.pointer none] w (Quiet (.int .i64 0) w) := by
  go_enter Try.func17, Try.ntmps17
  go_wp2_with fail
  exact bodyPost_ret (v := .int .i64 0) (by simp [results, Try.results17, go_sem, *]) rfl ⟨rfl, rfl⟩
theorem waits_nil (w : World) : Calls Try.prog 16 #[.pointer none] w (Quiet (.tuple #[.int .i64 0, .int .i64 0]) w) := by
  go_enter Try.func16, Try.ntmps16
  go_wp2_with fail
  exact bodyPost_ret (v := .tuple #[.int .i64 0, .int .i64 0]) (by simp [results, Try.results16, go_sem, *]) rfl ⟨rfl, rfl⟩
theorem flush_nil (w : World) : Calls Try.prog 12 #[.pointer none] w (Quiet (.tuple #[]) w) := by
  go_enter Try.func12, Try.ntmps12
  go_wp2_with fail
  exact bodyPost_ret (v := .tuple #[]) (by simp [results, Try.results12, go_sem, *]) rfl ⟨rfl, rfl⟩
theorem say_nil (b : Value) (w : World) : Calls Try.prog 9 #[.pointer none, b] w (Quiet (.tuple #[]) w) := by
  go_enter Try.func9, Try.ntmps9
  go_wp2_with fail
  exact bodyPost_ret (v := .tuple #[]) (by simp [results, Try.results9, go_sem, *]) rfl ⟨rfl, rfl⟩
theorem offer_nil (b x : Value) (w : World) : Calls Try.prog 10 #[.pointer none, b, x] w (Quiet (.bool false) w) := by
  go_enter Try.func10, Try.ntmps10
  go_wp2_with fail
  exact bodyPost_ret (v := .bool false) (by simp [results, Try.results10, go_sem, *]) rfl ⟨rfl, rfl⟩
theorem take_nil (n : Value) (w : World) : Calls Try.prog 11 #[.pointer none, n] w (Quiet (.slice none 0 0) w) := by
  go_enter Try.func11, Try.ntmps11
  go_wp2_with fail
  exact bodyPost_ret (v := .slice none 0 0) (by simp [results, Try.results11, go_sem, *]) rfl ⟨rfl, rfl⟩

section
variable {own : Nat → Prop} {w : World} {B p most lost : Nat} {hd : List Int} {l : List (List Int)} {drops : Bool}
theorem lost_c (h : Q w B p hd l most drops lost own) : Calls Try.prog 17 #[.pointer (some ⟨p, 0, none⟩)] w (Quiet (.int .i64 (lost : Int)) w) := by
  obtain ⟨hv, lv, vs, h⟩ := h
  obtain ⟨c0, c1, c2, c3, c4, cf⟩ := h.hp.five
  clear h
  go_enter Try.func17, Try.ntmps17
  go_wp2_with fail
  exact bodyPost_ret (v := .int .i64 (lost : Int)) (by simp [results, Try.results17, go_sem, *]) rfl ⟨rfl, rfl⟩
theorem waits_c (h : Q w B p hd l most drops lost own) : Calls Try.prog 16 #[.pointer (some ⟨p, 0, none⟩)] w (fun e w' => e = .returned (.tuple #[.int .i64 (l.length : Int), .int .i64 (hd.length : Int)]) ∧ w' = w.drew) := by
  obtain ⟨hv, lv, vs, h⟩ := h
  obtain ⟨A, c, rfl, _⟩ := q_slice h.hq
  obtain ⟨A1, k1, rfl, _⟩ := q_slice h.lq
  obtain ⟨c0, c1, c2, c3, c4, cf⟩ := h.hp.five
  clear h
  go_enter Try.func16, Try.ntmps16
  go_wp2_with fail
  go_region
  go_wp2_with fail
  exact bodyPost_ret (v := .tuple #[.int .i64 (l.length : Int), .int .i64 (hd.length : Int)]) (by simp [results, Try.results16, go_sem, *]) rfl ⟨rfl, rfl⟩
theorem full_c (h : Q w B p hd l most drops lost own) : Calls Try.prog 18 #[.pointer (some ⟨p, 0, none⟩)] w (fun e w' => e = .returned (.bool (decide (most ≤ l.length))) ∧ w' = w.drew) := by
  obtain ⟨hv, lv, vs, h⟩ := h
  obtain ⟨A1, k1, rfl, _⟩ := q_slice h.lq
  obtain ⟨c0, c1, c2, c3, c4, cf⟩ := h.hp.five
  clear h
  go_enter Try.func18, Try.ntmps18
  go_wp2_with fail
  go_region
  go_wp2_with fail
  exact bodyPost_ret (v := .bool (decide (most ≤ l.length))) (by simp [results, Try.results18, go_sem, *]) rfl ⟨rfl, rfl⟩

/-- What a flush leaves. -/
def FlushPost (w : World) (B p : Nat) (hd : List Int) (l : List (List Int)) (most lost : Nat) (own : Nat → Prop) (e : Ending) (w' : World) : Prop :=
  e = .returned (.tuple #[]) ∧ Q w' B p hd [] most true (lost + l.length) own ∧ But own w w'
theorem flush_c (h : Q w B p hd l most drops lost own) (hb : lost ≤ 1000000 ∧ l.length ≤ 1000) : Calls Try.prog 12 #[.pointer (some ⟨p, 0, none⟩)] w (FlushPost w B p hd l most lost own) := by
  obtain ⟨hv, lv, vs, h⟩ := h
  obtain ⟨A1, k1, rfl, _⟩ := q_slice h.lq
  obtain ⟨c0, c1, c2, c3, c4, cf⟩ := h.hp.five
  have HQ := Aside0.mk h
  clear h
  go_enter Try.func12, Try.ntmps12
  go_wp2_with fail
  go_region
  go_wp2_with fail
  refine bodyPost_ret (v := .tuple #[]) (by simp [results, Try.results12, go_sem, *]) rfl ⟨rfl, ?_, ?_⟩
  · have H := HQ.out
    refine ⟨hv, .slice none 0 0, [], ⟨?_, ?_, q_nil _ _ _, fun i v bs hi => by simp at hi, by simp, H.op, ?_, ?_⟩⟩
    · have := (((H.hp.set 4 (.int .i64 ((lost : Int) + (l.length : Int)))).set 1 (.slice none 0 0)).set 3 (.bool true)).drew
      simpa using this
    · exact q_move (q_far (q_far (q_far H.hq (p := ⟨p, 4, none⟩) H.hne _) (p := ⟨p, 1, none⟩) H.hne _) (p := ⟨p, 3, none⟩) H.hne _) (fun _ _ => rfl)
    · intro v hv' k hk
      simp at hv'
      rcases hv' with rfl | rfl
      · exact H.ov v (by simp) k hk
      · simp [Value.ownBlock] at hk
    · intro b hb'
      have := H.lt b hb'
      simpa using this
  · exact ((((But.refl _ w).set (.inr HQ.out.op) _).set (.inr HQ.out.op) _).set (.inr HQ.out.op) _).drew

/-- What bytes that are said leave. -/
def SayPost (w : World) (B p : Nat) (hd : List Int) (l : List (List Int)) (most : Nat) (drops : Bool) (lost : Nat) (own : Nat → Prop) (e : Ending) (w' : World) : Prop :=
  e = .returned (.tuple #[]) ∧ Q w' B p hd l most drops lost (grow own w w') ∧ But own w w'
set_option maxHeartbeats 4000000 in
theorem say_c (h : Q w B p hd l most drops lost own) (A : Option Addr) (c : Nat) (bs : List Int) (hn : News w 1 A bs.length (u8s bs)) (hB : B ≤ w.heap.size) (hb : hd.length ≤ 1000000 ∧ bs.length ≤ 1000) :
    Calls Try.prog 9 #[.pointer (some ⟨p, 0, none⟩), .slice A bs.length c] w (SayPost w B p (hd ++ bs) l most drops lost own) := by
  obtain ⟨hv, lv, vs, h⟩ := h
  obtain ⟨A0, k0, rfl, _⟩ := q_slice h.hq
  obtain ⟨c0, c1, c2, c3, c4, cf⟩ := h.hp.five
  have HQ := Aside0.mk h
  have HN := Aside0.mk hn
  clear h hn
  go_enter Try.func9, Try.ntmps9
  go_wp2_with (at_builtin; refine wpList_append_q T32 _ rfl _ _ rfl B (.slice A0 hd.length k0) hd.length (u8s hd) rfl ?c0 A bs.length c (u8s bs) rfl ?c1 ?c2 ?c3 ?c4 ?_)
  case c0 => exact HQ.out.hq
  case c1 => exact HN.out
  case c2 => unfold maxLen; omega
  case c3 => omega
  case c4 => exact hB
  rintro v' w2 ⟨hq, hg, hat, _⟩
  have H := HQ.out
  have hob : ∀ k, (Value.slice A0 hd.length k0).ownBlock = some k → own k := fun k hk => H.ov _ (by simp) k hk
  have hp2 : Has w2 p 48 [.slice A0 hd.length k0, lv, .int .i64 (most : Int), .bool drops, .int .i64 (lost : Int)] := H.hp.grown hg (fun e => H.hne _ e.symm rfl)
  have hb2 : But own w w2 := (But.refl own w).grown hg (fun k hk => .inr (hob k hk))
  obtain ⟨A1, k1, rfl, _⟩ := q_slice hq
  have hnew : ∀ k, (Value.slice A1 (hd.length + bs.length) k1).ownBlock = some k → ((Value.slice A0 hd.length k0).ownBlock = some k) ∨ (w.heap.size ≤ k ∧ k < w2.heap.size) := by
    intro k hk
    rcases hat with hat | ⟨b, hat, hb⟩
    · rw [hat] at hk; exact .inl hk
    · rw [hat] at hk; simp at hk; subst hk; exact .inr ⟨hb, q_lt hq b hat⟩
  have hne1 : ∀ k, (Value.slice A1 (hd.length + bs.length) k1).ownBlock = some k → k ≠ p := typed_ne hq hp2 (by decide)
  clear c0 c1 c2 c3 c4 cf
  obtain ⟨c0, c1, c2, c3, c4, cf⟩ := hp2.five
  have HF := Aside0.mk (And.intro hq (And.intro hg (And.intro hb2 (And.intro hnew (And.intro hne1 (And.intro hp2 H))))))
  clear hq hg hb2 hnew hne1 hp2 H hat hob
  go_wp2_with fail
  refine bodyPost_ret (v := .tuple #[]) (by simp [results, Try.results9, go_sem, *]) rfl ⟨rfl, ?_, ?_⟩
  · obtain ⟨hq, hg, hb2, hnew, hne1, hp2, H⟩ := HF.out
    have hap : ∀ v ∈ vs, ∀ k, v.ownBlock = some k → (Value.slice A0 hd.length k0).ownBlock ≠ some k := fun v hv' k hk e => (List.pairwise_cons.1 H.ap).1 v hv' k e hk
    have hlb : ∀ k, lv.ownBlock = some k → (Value.slice A0 hd.length k0).ownBlock ≠ some k := by
      intro k hk e
      obtain ⟨_, cur, hc⟩ := q_typed H.lq k hk
      obtain ⟨_, cur', hc'⟩ := q_typed H.hq k e
      have := hc.symm.trans hc'
      simp at this
    have mv : ∀ k, k < w.heap.size → (Value.slice A0 hd.length k0).ownBlock ≠ some k → k ≠ p → (w2.setCell ⟨p, 0, none⟩ (.slice A1 (hd.length + bs.length) k1)).heap[k]? = w.heap[k]? := by
      intro k hk hne hkp
      rw [Below.heap_setCell _ _ _ k hkp]
      exact hg.block k hk (fun e => hne e.symm)
    refine ⟨.slice A1 (hd.length + bs.length) k1, lv, vs, ⟨hp2.set 0 _, ?_, q_move H.lq (fun k hk => mv k (q_lt H.lq k hk) (hlb k hk) (H.lne k hk)), ?_, ?_, .inl H.op, ?_, ?_⟩⟩
    · have := q_far hq (p := ⟨p, 0, none⟩) hne1 (.slice A1 (hd.length + bs.length) k1)
      simpa [u8s] using this
    · intro i v bs' hi hbs
      have hmem := List.mem_of_getElem? hi
      have hqv := H.pk i v bs' hi hbs
      exact q_move hqv (fun k hk => mv k (q_lt hqv k hk) (hap v hmem k hk) (H.vne v hmem k hk))
    · refine List.pairwise_cons.2 ⟨fun v hmem k hk e => ?_, (List.pairwise_cons.1 H.ap).2⟩
      rcases hnew k hk with h1 | h1
      · exact hap v hmem k e h1
      · have := H.lt k (H.ov v (by simp [hmem]) k e); omega
    · intro v hv' k hk
      simp only [List.mem_cons] at hv'
      rcases hv' with rfl | rfl | hv'
      · rcases hnew k hk with h1 | h1
        · exact .inl (H.ov _ (by simp) k h1)
        · exact .inr (by simpa using h1)
      · exact .inl (H.ov _ (by simp) k hk)
      · exact .inl (H.ov _ (by simp [hv']) k hk)
    · intro b hb'
      have := hg.size
      rcases hb' with hb' | hb'
      · have := H.lt b hb'; simp; omega
      · simp at hb' ⊢; omega
  · exact HF.out.2.2.1.set (.inr HF.out.2.2.2.2.2.2.op) _
end
end Go.Proofs.Ytdfpfchkiogkgaa.Own
