/-
  The ring's functions, each by its contract: what it computes and what it leaves of memory.
-/
import Derived.Test.YtgbopeeohimlnaaProg
import Derived.Test.YtgbopeeohimlnaaH
import Derived.Test.YtgbopeeohimlnaaWMore
import Derived.Deep.QuietTactic
import Derived.BigQuiet
import Derived.WalkSpells
import Derived.WalkLawsBesides
import Derived.Deep.RegionHeld3
set_option linter.unusedVariables false
set_option linter.unusedSimpArgs false
namespace Go.Proofs.Ytgbopeeohimlnaa.Own
open Go.RowKit Go.Proofs.YtgbopeeohimlnaaW.PrintWords Go.Proofs.YtgbopeeohimlnaaW.PrintMore Go.Proofs.Ytgbopeeohimlnaa.H

theorem T30 : SlT Try.prog 30 5 (.int .u8 0) 1 1 := SlT.mk' Try.underlying30 (by kernel_rfl) rfl (by decide)
theorem T22 : SlT Try.prog 22 32 (.agg #[.int .u32 0, .int .u32 0, .bool false, .slice none 0 0]) 4 40 := SlT.mk' Try.underlying22 (by kernel_rfl) rfl (by decide)

def u8s (bs : List Int) : List Value := bs.map (Value.int .u8)
theorem u8s_length (bs : List Int) : (u8s bs).length = bs.length := by simp [u8s]

/-- A packet. -/
structure Pk where
  e : Int
  num : Int
  wh : Bool
  bs : List Int

/-- A slice of bytes that is read. -/
def Bytes (w : World) (A : Option Addr) (c : Nat) (bs : List Int) : Prop := bs.length ≤ c ∧ Kd.C (Kd.int .u8) w A bs.length bs
theorem Bytes.below {w w1 : World} {A : Option Addr} {c : Nat} {bs : List Int} (h : Bytes w A c bs) (hb : Below w.heap.size w w1) : Bytes w1 A c bs := ⟨h.1, Kd.C_below h.2 hb⟩
theorem Bytes.news {w : World} {A : Option Addr} {c : Nat} {bs : List Int} (h : Bytes w A c bs) : News w 1 A bs.length (u8s bs) := news_of_C h.2

/-- A slice of bytes of one's own, made from block B on. -/
def Mine (w : World) (B : Nat) (v : Value) (bs : List Int) : Prop := ∃ b n c, v = .slice (some ⟨b, 0, none⟩) bs.length c ∧ B ≤ b ∧ bs.length ≤ c ∧ Has w b 5 (u8s bs ++ List.replicate n (.int .u8 0))

def pkVal (p : Pk) (pv : Value) : Value := .agg #[.int .u32 p.e, .int .u32 p.num, .bool p.wh, pv]
def pkCells (p : Pk) (pv : Value) : List Value := [.int .u32 p.e, .int .u32 p.num, .bool p.wh, pv]

def CopiedPost (w : World) (p : Pk) (e : Ending) (w' : World) : Prop := ∃ A c, e = .returned (.agg #[.int .u32 p.e, .int .u32 p.num, .bool p.wh, .slice A p.bs.length c]) ∧ QRow w' w.heap.size 5 1 (.slice A p.bs.length c) p.bs.length (u8s p.bs) ∧ Below w.heap.size w w'
set_option maxHeartbeats 1000000 in
theorem copied_c (p : Pk) (A : Option Addr) (c : Nat) (w : World) (hr : Bytes w A c p.bs) (hlen : p.bs.length ≤ 1000000) :
    Calls Try.prog 12 #[pkVal p (.slice A p.bs.length c)] w (CopiedPost w p) := by
  have HR := Aside0.mk hr
  clear hr
  unfold pkVal
  go_enter Try.func12, Try.ntmps12
  go_wp2_with (at_builtin; refine wpList_append_q T30 _ rfl _ _ rfl w.heap.size _ 0 [] rfl ?c0 A p.bs.length c (u8s p.bs) rfl ?c1 ?c2 ?c3 ?c4 ?_)
  case c0 => exact q_empty' _ _ _ 5 1 (by simp) (by omega)
  case c1 => exact news_of_C (Kd.C_alloc (Kd.C_alloc (Kd.C_alloc HR.out.2 _) _) _)
  case c2 => unfold maxLen; omega
  case c3 => omega
  case c4 => simp; omega
  rintro v' w' ⟨hq, hg, hat, _⟩
  simp only [Nat.zero_add, List.nil_append] at hq
  obtain ⟨A1, c1, hv1, hc1⟩ := q_slice hq
  subst hv1
  have hp := (((Has.new w 32 [.int .u32 p.e, .int .u32 p.num, .bool p.wh, .slice A p.bs.length c]).alloc (.cells #[.int .u32 0, .int .u32 0, .bool false, .slice none 0 0] 32)).alloc (.cells #[] 5)).grown hg (by simp [Value.ownBlock]; omega)
  have hr := ((Has.new (w.alloc (.cells #[.int .u32 p.e, .int .u32 p.num, .bool p.wh, .slice A p.bs.length c] 32)) 32 [.int .u32 0, .int .u32 0, .bool false, .slice none 0 0]).alloc (.cells #[] 5)).grown hg (by simp [Value.ownBlock])
  simp only [World.size_alloc] at hr
  obtain ⟨p0, p1, p2, p3, pf⟩ := hp.four
  obtain ⟨r0, r1, r2, r3, rf⟩ := hr.four
  have hb : Below w.heap.size w w' := Below.grown (((((Below.refl _ w).alloc (Nat.le_refl _) _).alloc (by simp) _).alloc (by simp; omega) _)) hg (by simp; omega) (fun k hk => by simp [Value.ownBlock] at hk; omega)
  have hk : ∀ k, (Value.slice A1 p.bs.length c1).ownBlock = some k → w.heap.size + 2 ≤ k := fun k hk => by
    rcases hat with hat | ⟨b, hat, hb⟩
    · rw [hat] at hk; simp [Value.ownBlock] at hk; omega
    · rw [hat] at hk; simp at hk hb; omega
  have HQ := Aside0.mk hq
  have HB := Aside0.mk hb
  have HK := Aside0.mk hk
  clear hq hb hk hat hg hp hr hc1
  go_wp2_with fail
  refine bodyPost_ret (v := pkVal p (.slice A1 p.bs.length c1)) (by simp [results, Try.results12, go_sem, pkVal, *]) rfl ⟨_, _, rfl, ?_, ?_⟩
  · refine q_far (q_far (q_far (q_far (q_far HQ.out ?_ _) ?_ _) ?_ _) ?_ _) ?_ _
    all_goals exact fun k hk => by have := HK.out k hk; simp; omega
  · exact ((((HB.out.setCell (by simp) _).setCell (by simp) _).setCell (by simp) _).setCell (by simp) _).setCell (by simp) _

/-- The place of the last whole one, from place i on; a, if there is none. -/
def lwFrom : List Pk → Nat → Int → Int
  | [], _, a => a
  | p :: ps, i, a => lwFrom ps (i + 1) (if p.wh then (i : Int) else a)
def lw (ps : List Pk) : Int := lwFrom ps 0 (-1)
theorem lwFrom_snoc (ps : List Pk) (p : Pk) : ∀ i a, lwFrom (ps ++ [p]) i a = if p.wh then ((i + ps.length : Nat) : Int) else lwFrom ps i a := by
  induction ps with
  | nil => intro i a; simp [lwFrom]
  | cons q ps ih =>
    intro i a
    simp only [List.cons_append, lwFrom, ih, List.length_cons]
    rw [show i + 1 + ps.length = i + (ps.length + 1) by omega]
theorem lw_snoc (ps : List Pk) (p : Pk) : lw (ps ++ [p]) = if p.wh then (ps.length : Int) else lw ps := by
  unfold lw; rw [lwFrom_snoc]; simp

/-- Slot j of a ring's cells holds a packet, its bytes at pv. -/
def Slot (cs : List Value) (j : Nat) (pk : Pk) (pv : Value) : Prop :=
  cs[j * 4]? = some (.int .u32 pk.e) ∧ cs[j * 4 + 1]? = some (.int .u32 pk.num) ∧ cs[j * 4 + 2]? = some (.bool pk.wh) ∧ cs[j * 4 + 3]? = some pv

/-- A ring at block p, its packets at block g, with room for n; ps were pushed. -/
structure Ring (w : World) (B p g n : Nat) (ps : List Pk) (own : Nat → Prop) : Prop where
  hn : 1 ≤ n ∧ n ≤ 1024
  hp : B ≤ p
  hg : B ≤ g
  hlen : ps.length ≤ 1000000
  hr : Has w p 44 [.slice (some ⟨g, 0, none⟩) n n, .int .i64 (ps.length : Int), .int .i64 (lw ps)]
  hc : ∃ cs, Has w g 32 cs ∧ cs.length = n * 4 ∧ ∀ (k : Nat) (pk : Pk), ps[k]? = some pk → ps.length ≤ k + n →
    ∃ pv, Slot cs (k % n) pk pv ∧ QRow w B 5 1 pv pk.bs.length (u8s pk.bs) ∧ ∀ b, pv.ownBlock = some b → own b

theorem Ring.ne {w : World} {B p g n : Nat} {ps : List Pk} {own : Nat → Prop} (h : Ring w B p g n ps own) : p ≠ g := by
  obtain ⟨cs, hc, _⟩ := h.hc
  intro e
  subst e
  have := (h.hr.same hc).2
  omega

theorem Ring.but {S : Nat → Prop} {w w1 : World} {B p g n : Nat} {ps : List Pk} {own : Nat → Prop} (h : Ring w B p g n ps own) (hb : But S w w1) (hp : ¬ S p) (hg : ¬ S g) (ho : ∀ b, own b → ¬ S b) : Ring w1 B p g n ps own := by
  obtain ⟨cs, hc, hl, hs⟩ := h.hc
  refine ⟨h.hn, h.hp, h.hg, h.hlen, h.hr.but hb hp, cs, hc.but hb hg, hl, fun k pk hk hkn => ?_⟩
  obtain ⟨pv, h1, h2, h3⟩ := hs k pk hk hkn
  exact ⟨pv, h1, q_but h2 hb (fun b hb => ho b (h3 b hb)), h3⟩
theorem Ring.below {w w1 : World} {B p g n : Nat} {ps : List Pk} {own : Nat → Prop} (h : Ring w B p g n ps own) (hb : Below w.heap.size w w1) : Ring w1 B p g n ps own :=
  h.but (S := fun _ => False) (But.of_below hb) (fun h => h) (fun h => h) (fun _ _ h => h)

def NewPost (w : World) (n : Nat) (e : Ending) (w' : World) : Prop := ∃ p g, e = .returned (.tuple #[.pointer (some ⟨p, 0, none⟩), .int .i64 0]) ∧ Ring w' w.heap.size p g n [] (fun _ => False) ∧ Below w.heap.size w w'

set_option maxHeartbeats 1000000 in
theorem new_c (n : Nat) (h : 1 ≤ n ∧ n ≤ 1024) (w : World) : Calls Try.prog 6 #[.int .i64 (n : Int)] w (NewPost w n) := by
  obtain ⟨i, hi, hz, hs, hb⟩ := T22.hi
  have d1 : decide ((n : Int) < 1) = false := by simp; omega
  have d2 : decide (1024 < (n : Int)) = false := by simp; omega
  have d3 : decide (1024 < n) = false := by simp; omega
  go_enter Try.func6, Try.ntmps6
  go_wp2_with (at_make; refine wpList_make_full _ rfl _ _ 22 rfl w.heap.size 32 i _ 4 Try.underlying22 hi hz hs .i64 .i64 _ _ n rfl rfl rfl rfl ?b2 ?b3 ?b4 ?_)
  case b2 => rw [hb]; omega
  case b3 => unfold maxLen; omega
  case b4 => exact Nat.le_refl _
  intro w1 hown hg
  go_wp2_with fail
  go_ret2
  obtain ⟨g', cap, cur, hv, hbg, hcur, hnc, hcm, hsz, htk⟩ := hown.2.resolve_left (by simp)
  simp only [Value.slice.injEq, Option.some.injEq, Addr.mk.injEq, and_true, true_and] at hv
  obtain ⟨rfl, rfl⟩ := hv
  have hh : Has w1 w.heap.size 32 cur.toList := by simpa [Has] using hcur
  refine ⟨w1.heap.size, w.heap.size, rfl, ⟨h, hg.size, Nat.le_refl _, by simp, Has.new w1 44 [_, _, _], cur.toList, hh.alloc _, by simpa using hsz, fun k pk hk => by simp at hk⟩, ?_⟩
  exact ((Below.refl _ w).grown hg (Nat.le_refl _) (fun k hk => by simp at hk)).alloc hg.size _
theorem new_bad (n : Int) (h : n < 1 ∨ n > 1024) (w : World) : Calls Try.prog 6 #[.int .i64 n] w fun e w' => e = .returned (.tuple #[.pointer none, .int .i64 1]) ∧ w = w' := by
  have h' : decide (n < 1) = true ∨ (decide (n < 1) = false ∧ decide (1024 < n) = true) := by simp only [decide_eq_true_eq, decide_eq_false_iff_not]; omega
  clear h
  rcases h' with d1 | ⟨d1, d2⟩
  all_goals
    go_enter Try.func6, Try.ntmps6
    go_wp2_with fail
    go_ret2
    exact ⟨rfl, rfl⟩

set_option maxHeartbeats 1000000 in
theorem ends_c {w : World} {B p g n : Nat} {ps : List Pk} {own : Nat → Prop} (h : Ring w B p g n ps own) :
    Calls Try.prog 10 #[.pointer (some ⟨p, 0, none⟩)] w fun e w' => e = .returned (.tuple #[.int .i64 ((ps.length - n : Nat) : Int), .int .i64 (ps.length : Int)]) ∧ Drawn0 w w' := by
  obtain ⟨c0, c1, c2, cf⟩ := h.hr.three
  have hlen := h.hlen
  have hn := h.hn
  clear h
  by_cases hlt : ps.length < n
  · have d : (ps.length : Int) - (n : Int) < 0 := by omega
    go_enter Try.func10, Try.ntmps10
    go_wp2_with fail
    go_quiet (fail)
    go_wp2_with fail
    go_ret2
    refine ⟨?_, Drawn0.mk ⟨_, rfl⟩⟩
    simp; omega
  · have d : 0 ≤ (ps.length : Int) - (n : Int) := by omega
    go_enter Try.func10, Try.ntmps10
    go_wp2_with fail
    go_quiet (fail)
    go_wp2_with fail
    go_ret2
    refine ⟨?_, Drawn0.mk ⟨_, rfl⟩⟩
    simp; omega
theorem ends_nil (w : World) : Calls Try.prog 10 #[.pointer none] w fun e w' => e = .returned (.tuple #[.int .i64 0, .int .i64 0]) ∧ w = w' := by
  go_enter Try.func10, Try.ntmps10
  go_wp2_with fail
  go_ret2
  exact ⟨rfl, rfl⟩
end Go.Proofs.Ytgbopeeohimlnaa.Own
