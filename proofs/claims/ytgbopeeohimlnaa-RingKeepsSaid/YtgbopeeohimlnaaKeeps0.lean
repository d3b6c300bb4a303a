/-
  What RingKeeps' walk rests on: how its packets are read, how bytes of one's own are turned, where one may join.
-/
import Derived.Test.YtgbopeeohimlnaaArgsWalk
import Derived.Test.YtgbopeeohimlnaaPRingKeepsx1
set_option linter.unusedVariables false
set_option linter.unusedSimpArgs false
namespace Go.Proofs.Ytgbopeeohimlnaa.Own
open Go.RowKit Go.Proofs.YtgbopeeohimlnaaW.PrintWords Go.Proofs.YtgbopeeohimlnaaW.PrintMore Go.Proofs.Ytgbopeeohimlnaa.H

/-- Packet i is read at an address: four cells, and its bytes. -/
structure PkAt (w : World) (a : Addr) (pk : Pk) (Ai : Option Addr) (ci : Nat) : Prop where
  c0 : w.cell? a = some (.int .u32 pk.e)
  c1 : w.cell? ⟨a.block, a.off + 1, none⟩ = some (.int .u32 pk.num)
  c2 : w.cell? ⟨a.block, a.off + 2, none⟩ = some (.bool pk.wh)
  c3 : w.cell? ⟨a.block, a.off + 3, none⟩ = some (.slice Ai pk.bs.length ci)
  by_ : Bytes w Ai ci pk.bs
theorem PkAt.below {w w1 : World} {a : Addr} {pk : Pk} {Ai : Option Addr} {ci : Nat} (h : PkAt w a pk Ai ci) (hb : Below w.heap.size w w1) : PkAt w1 a pk Ai ci :=
  ⟨cell_below hb h.c0, cell_below hb h.c1, cell_below hb h.c2, cell_below hb h.c3, h.by_.below hb⟩

/-- The packets that came in. -/
def Came (w : World) (A : Option Addr) (pks : List Pk) : Prop := ∀ (i : Nat) (pk : Pk), pks[i]? = some pk → ∃ ad Ai ci, A = some ad ∧ PkAt w (ad.add (i * 4)) pk Ai ci

theorem same_c (pk : Pk) (A A' : Option Addr) (c c' : Nat) (w : World) (h : Bytes w A c pk.bs) (h' : Bytes w A' c' pk.bs) :
    Calls Try.prog 9 #[.agg #[.int .u32 pk.e, .int .u32 pk.num, .bool pk.wh, .slice A pk.bs.length c], .agg #[.int .u32 pk.e, .int .u32 pk.num, .bool pk.wh, .slice A' pk.bs.length c']] w fun e w' => e = .returned (.bool true) ∧ Below w.heap.size w w' :=
  PRingKeeps.sidebandlaw21_same.calls pk.e pk.num pk.wh A c pk.bs pk.e pk.num pk.wh A' c' pk.bs true w h.2 h.1 h'.2 h'.1 (by simp [PRingKeeps.sidebandlaw21_same.f])

/-- A row of bytes of one's own, opened: where it lies, and that it may be written. -/
theorem q_open {w : World} {base e n c : Nat} {A : Option Addr} {xs : List Value} (h : QRow w base e 1 (.slice A n c) n xs) (hn : 0 < n) :
    ∃ g o, A = some ⟨g, o, none⟩ ∧ base ≤ g ∧ (∀ j, j < n → w.cell? ⟨g, o + j, none⟩ = xs[j]?) ∧ (∀ j, w.frozen? ⟨g, j, none⟩ = false) ∧
      ∀ (i : Nat) (u : Value), i < n → QRow (w.setCell ⟨g, o + i, none⟩ u) base e 1 (.slice A n c) n (xs.set i u) := by
  obtain ⟨hl, h2⟩ := h
  rcases h2 with ⟨h0, _⟩ | ⟨g, off, cap, cur, he, hb, hh, hnc, hm, hs, ht⟩
  · omega
  · injection he with ha _ hc
    subst ha; subst hc
    simp only [Nat.mul_one] at *
    refine ⟨g, off, rfl, hb, fun j hj => ?_, fun j => blk_frozen hh j, fun i u hi => ⟨by simpa using hl, .inr ⟨g, off, c, cur.setIfInBounds (off + i) u, by simp, hb, blk_set hh _ _, hnc, hm, by simpa using hs, ?_⟩⟩⟩
    · rw [blk_cell hh, ← ht, List.getElem?_take, if_pos hj, List.getElem?_drop, Array.getElem?_toList]
    · simp only [Nat.mul_one, Array.toList_setIfInBounds]
      rw [List.drop_set, if_neg (by omega), List.take_set, ht]
      congr 1
      omega

theorem u8s_at {bs : List Int} {j : Nat} (h : j < bs.length) : ∃ x, (u8s bs)[j]? = some (.int .u8 x) := ⟨bs[j], by simp [u8s, h]⟩
theorem u8s_set (bs : List Int) (i : Nat) (x : Int) : u8s (bs.set i x) = (u8s bs).set i (.int .u8 x) := by simp [u8s]

/-- The place where one may join, of the packets from first on, till k: -1, if there is none. -/
def jn (pks : List Pk) (first k : Nat) : Int := if lw (pks.take k) < (first : Int) then -1 else lw (pks.take k)
theorem jn_start (pks : List Pk) (first : Nat) : jn pks first first = -1 := by
  unfold jn
  rw [if_pos]
  have h1 := (lw_bounds (pks.take first)).2
  have h2 : (pks.take first).length ≤ first := List.length_take_le _ _
  omega
theorem jn_step (pks : List Pk) (first k : Nat) (pk : Pk) (h : pks[k]? = some pk) (hf : first ≤ k) : jn pks first (k + 1) = if pk.wh then (k : Int) else jn pks first k := by
  have hk : k < pks.length := (List.getElem?_eq_some_iff.1 h).1
  have ht : pks.take (k + 1) = pks.take k ++ [pk] := by
    rw [List.take_add_one, h]; rfl
  unfold jn
  rw [ht, lw_snoc]
  have hl : (pks.take k).length = k := by rw [List.length_take]; omega
  rw [hl]
  by_cases hw : pk.wh = true
  · rw [if_pos hw, if_neg (by omega), if_pos hw]
  · rw [if_neg hw, if_neg hw]
theorem take_snoc {pks : List Pk} {k : Nat} {pk : Pk} (h : pks[k]? = some pk) : pks.take (k + 1) = pks.take k ++ [pk] := by
  rw [List.take_add_one, h]; rfl

theorem Ring.glt {w : World} {B p g n : Nat} {ps : List Pk} {own : Nat → Prop} (h : Ring w B p g n ps own) : g < w.heap.size := by
  obtain ⟨cs, hc, _⟩ := h.hc; exact hc.lt
def AtNo' (w : World) (e : Ending) (w' : World) : Prop := e = .returned (.tuple #[.agg #[.int .u32 0, .int .u32 0, .bool false, .slice none 0 0], .bool false]) ∧ Below w.heap.size w w'
theorem at_no' {w : World} {B p g n : Nat} {ps : List Pk} {own : Nat → Prop} (h : Ring w B p g n ps own) (i : Int) (hi : i < ((ps.length - n : Nat) : Int) ∨ (ps.length : Int) ≤ i) :
    Calls Try.prog 8 #[.pointer (some ⟨p, 0, none⟩), .int .i64 i] w (AtNo' w) := at_no h i hi
def EndsPost (w : World) (first : Nat) (till : Int) (e : Ending) (w' : World) : Prop := e = .returned (.tuple #[.int .i64 (first : Int), .int .i64 till]) ∧ Drawn0 w w'
theorem ends_is {w : World} {B p g n : Nat} {ps : List Pk} {own : Nat → Prop} (h : Ring w B p g n ps own) (first : Nat) (till : Int) (h1 : first = ps.length - n) (h2 : till = (ps.length : Int)) :
    Calls Try.prog 10 #[.pointer (some ⟨p, 0, none⟩)] w (EndsPost w first till) := by
  subst h1; subst h2; exact ends_c h
def JoinIs (w : World) (v : Int) (b : Bool) (e : Ending) (w' : World) : Prop := e = .returned (.tuple #[.int .i64 v, .bool b]) ∧ Drawn0 w w'
theorem join_no {w : World} {B p g n : Nat} {ps : List Pk} {own : Nat → Prop} (h : Ring w B p g n ps own) (hJ : lw ps < ((ps.length - n : Nat) : Int)) :
    Calls Try.prog 11 #[.pointer (some ⟨p, 0, none⟩)] w (JoinIs w 0 false) :=
  (join_c h).mono fun e w' hj => ⟨by rw [hj.1, if_pos hJ]; simp; omega, hj.2⟩
theorem join_yes {w : World} {B p g n : Nat} {ps : List Pk} {own : Nat → Prop} (h : Ring w B p g n ps own) (hJ : ¬ lw ps < ((ps.length - n : Nat) : Int)) :
    Calls Try.prog 11 #[.pointer (some ⟨p, 0, none⟩)] w (JoinIs w (lw ps) true) :=
  (join_c h).mono fun e w' hj => ⟨by rw [hj.1, if_neg hJ]; simp; omega, hj.2⟩
theorem size_is (a : Int) (h : -9223372036854775808 ≤ a ∧ a ≤ 9223372036854775807) : ∃ m : Nat, wrap64 (1 + wrap64 ((IntKind.u64.wrap a).tmod 12)) = (m : Int) ∧ 1 ≤ m ∧ m ≤ 12 := by
  have : 1 ≤ wrap64 (1 + wrap64 ((IntKind.u64.wrap a).tmod 12)) ∧ wrap64 (1 + wrap64 ((IntKind.u64.wrap a).tmod 12)) ≤ 12 := by
    rw [IntKind.wrap_u64, Int.tmod_eq_emod_of_nonneg (by omega)]
    unfold wrap64; omega
  exact ⟨(wrap64 (1 + wrap64 ((IntKind.u64.wrap a).tmod 12))).toNat, by omega, by omega, by omega⟩
end Go.Proofs.Ytgbopeeohimlnaa.Own
