/-
  Small words on memory for this seat's walks: a block that is known whole (Has), slices of one's own (the words' QRow), what a call leaves alone (Keeps). Plain lemmas; no program in sight.
-/
import Derived.Test.YtdfpfchkiogkgaaWWords
set_option linter.unusedVariables false
set_option linter.unusedSimpArgs false
namespace Go.Proofs.Ytdfpfchkiogkgaa.H
open Go.RowKit Go.Proofs.YtdfpfchkiogkgaaW.PrintWords

/-- Block b holds these cells, of type E; none is frozen. -/
def Has (w : World) (b E : Nat) (cs : List Value) : Prop := w.heap[b]? = some (.cells cs.toArray E (0, 0))

section
variable {w w1 : World} {b E : Nat} {cs : List Value}
theorem Has.out (h : Has w b E cs) : w.heap[b]? = some (.cells cs.toArray E (0, 0)) := h
theorem Has.lt (h : Has w b E cs) : b < w.heap.size := (Array.getElem?_eq_some_iff.1 h.out).1
theorem Has.cell (h : Has w b E cs) (i : Nat) : w.cell? ⟨b, i, none⟩ = cs[i]? := by
  rw [cell_of_row w b i cs.toArray E (0, 0) h]; simp
theorem Has.frozen (h : Has w b E cs) (i : Nat) : w.frozen? ⟨b, i, none⟩ = false := by
  have := h.out; simp [World.frozen?, this]
theorem Has.set (h : Has w b E cs) (i : Nat) (v : Value) : Has (w.setCell ⟨b, i, none⟩ v) b E (cs.set i v) := by
  have := blk_set h i v; simpa [Has] using this
theorem Has.far (h : Has w b E cs) {p : Addr} (hp : b ≠ p.block) (v : Value) : Has (w.setCell p v) b E cs := blk_far h hp v
theorem Has.alloc (h : Has w b E cs) (o : Obj) : Has (w.alloc o) b E cs := blk_alloc h o
theorem Has.drew (h : Has w b E cs) : Has w.drew b E cs := h
theorem Has.drewN (h : Has w b E cs) (n : Nat) : Has (w.drewN n) b E cs := blk_drewN h n
theorem Has.new (w : World) (E : Nat) (cs : List Value) : Has (w.alloc (.cells cs.toArray E)) w.heap.size E cs := heap_alloc_new w _
theorem Has.below {B : Nat} (h : Has w b E cs) (hb : Below B w w1) (hB : b < B) : Has w1 b E cs := (hb.block b hB).trans h
theorem Has.grown (h : Has w b E cs) {row : Option Nat} (hg : w.grownBy w1 row) (hne : some b ≠ row) : Has w1 b E cs := (hg.block b h.lt hne).trans h
theorem Has.four {x0 x1 x2 x3 : Value} (h : Has w b E [x0, x1, x2, x3]) : w.cell? ⟨b, 0, none⟩ = some x0 ∧ w.cell? ⟨b, 1, none⟩ = some x1 ∧ w.cell? ⟨b, 2, none⟩ = some x2 ∧ w.cell? ⟨b, 3, none⟩ = some x3 ∧ ∀ i, w.frozen? ⟨b, i, none⟩ = false :=
  ⟨h.cell 0, h.cell 1, h.cell 2, h.cell 3, h.frozen⟩
theorem Has.three {x0 x1 x2 : Value} (h : Has w b E [x0, x1, x2]) : w.cell? ⟨b, 0, none⟩ = some x0 ∧ w.cell? ⟨b, 1, none⟩ = some x1 ∧ w.cell? ⟨b, 2, none⟩ = some x2 ∧ ∀ i, w.frozen? ⟨b, i, none⟩ = false :=
  ⟨h.cell 0, h.cell 1, h.cell 2, h.frozen⟩
theorem Has.five {x0 x1 x2 x3 x4 : Value} (h : Has w b E [x0, x1, x2, x3, x4]) : w.cell? ⟨b, 0, none⟩ = some x0 ∧ w.cell? ⟨b, 1, none⟩ = some x1 ∧ w.cell? ⟨b, 2, none⟩ = some x2 ∧ w.cell? ⟨b, 3, none⟩ = some x3 ∧ w.cell? ⟨b, 4, none⟩ = some x4 ∧ ∀ i, w.frozen? ⟨b, i, none⟩ = false :=
  ⟨h.cell 0, h.cell 1, h.cell 2, h.cell 3, h.cell 4, h.frozen⟩
theorem Has.same {b E E' : Nat} {cs cs' : List Value} (h : Has w b E cs) (h' : Has w b E' cs') : cs = cs' ∧ E = E' := by
  have := h.out.symm.trans h'.out; simp at this; exact ⟨this.1, this.2⟩
end
theorem C_of_has {w : World} {b E : Nat} {k : IntKind} {xs : List Int} {rest : List Value} (h : Has w b E (xs.map (Value.int k) ++ rest)) (hl : xs.length ≤ 9223372036854775807) : Kd.C (Kd.int k) w (some ⟨b, 0, none⟩) xs.length xs := by
  refine ⟨rfl, hl, fun _ => ⟨⟨b, 0, none⟩, rfl, fun j p hj => ⟨[.int k p], rfl, rfl, fun i u hu => ?_⟩⟩⟩
  have hi : i = 0 := by
    have := (List.getElem?_eq_some_iff.1 hu).1
    simpa using this
  subst hi
  have hj2 := (List.getElem?_eq_some_iff.1 hj).1
  show w.cell? ((⟨b, 0, none⟩ : Addr).add (j * 1 + 0)) = some u
  rw [add_at, h.cell]
  simp at hu ⊢
  subst hu
  rw [List.getElem?_append_left (by simpa using hj2)]
  simp [hj]

/-! ### append onto a slice of one's own -/

/-- t is the type of slices of e; e's zero value, its cells, its bytes. -/
structure SlT (P : Program) (t e : TypeId) (z : Value) (size bytes : Nat) : Prop where
  ht : P.underlying t = some (.slice e)
  hi : ∃ i, P.info? e = some i ∧ i.zero = some z ∧ i.size = size ∧ i.bytes = bytes
  hz : z.cells.size = size
  pos : 0 < size

theorem SlT.mk' {P : Program} {t e : TypeId} {z : Value} {size bytes : Nat} (ht : P.underlying t = some (.slice e)) (hi : (P.info? e).map (fun i => (i.zero, i.size, i.bytes)) = some (some z, size, bytes)) (hz : z.cells.size = size) (pos : 0 < size) : SlT P t e z size bytes :=
  ⟨ht, info_parts hi, hz, pos⟩

/-- m elements are read at an address, if there are any. -/
def News (w : World) (size : Nat) (ao : Option Addr) (m : Nat) (news : List Value) : Prop :=
  news.length = m * size ∧ (∀ u ∈ news, u.oneCell' = true) ∧ (0 < m → ∃ ad, ao = some ad ∧ ∀ j u, news[j]? = some u → w.cell? (ad.add j) = some u)

theorem run_append_zero {P : Program} {t e : TypeId} {z : Value} {size bytes : Nat} (T : SlT P t e z size bytes) (ty : TypeId) (w : World) (A B : Option Addr) (n c c' : Nat) (h : n ≤ c) :
    (Builtin.append_ #[t, t] ty #[.slice A n c, .slice B 0 c']).run P w = .ok (.slice A n c) w := by
  obtain ⟨i, hi, _, _, _⟩ := T.hi
  cases A <;> cases B <;> simp [Builtin.append_, run_underlying T.ht, sizeOf, typeInfo, hi, Builtin.lenOf, h, Builtin.firstCells, loadCells, loadCellsFrom, storeCells]

/-- What an append leaves: the longer row; its block is the old one or new; nothing but the old block has changed. -/
def Appended (w : World) (base : Nat) (e : TypeId) (size : Nat) (v : Value) (n m : Nat) (xs news : List Value) (v' : Value) (w' : World) : Prop :=
  QRow w' base e size v' (n + m) (xs ++ news) ∧ w.grownBy w' v.ownBlock ∧ (v'.ownBlock = v.ownBlock ∨ ∃ b, v'.ownBlock = some b ∧ w.heap.size ≤ b) ∧ (m = 0 → v' = v ∧ w' = w)

theorem run_append_q {P : Program} {t e : TypeId} {z : Value} {size bytes : Nat} (T : SlT P t e z size bytes) (ty : TypeId) (w : World) (base : Nat) (v : Value) (n : Nat) (xs : List Value) (hown : QRow w base e size v n xs)
    (ao : Option Addr) (m c : Nat) (news : List Value) (hn : News w size ao m news) (h63 : n + m ≤ maxLen) (hbytes : (n + m) * bytes ≤ 140737488355328) (hbase : base ≤ w.heap.size) :
    ∃ v' w', (Builtin.append_ #[t, t] ty #[v, .slice ao m c]).run P w = .ok v' w' ∧ Appended w base e size v n m xs news v' w' := by
  by_cases hm : m = 0
  · subst hm
    obtain ⟨A, c0, rfl, hc⟩ := q_slice hown
    have hnil : news = [] := List.eq_nil_of_length_eq_zero (by simpa using hn.1)
    subst hnil
    exact ⟨_, _, run_append_zero T ty w A ao n c0 c hc, by simpa using hown, World.grownBy.refl _ _, .inl rfl, fun _ => ⟨rfl, rfl⟩⟩
  · obtain ⟨ad, rfl, hc⟩ := hn.2.2 (by omega)
    obtain ⟨i, hi, hz, hs, hb⟩ := T.hi
    obtain ⟨v', w', hr, h1, h2, h3⟩ := q_append (P := P) w base t ty e i z size bytes T.ht hi hz hs hb T.hz T.pos v n xs hown ad m c news hn.1 hc hn.2.1 (by omega) h63 hbytes hbase
    exact ⟨v', w', hr, h1, h2, h3, fun h => absurd h hm⟩

theorem wp_append_q {P : Program} {t e : TypeId} {z : Value} {size bytes : Nat} (T : SlT P t e z size bytes) (w : World) {o : Oper} {a : Act} {K : Act → World → Prop} {Q : Exit → Act → World → Prop} (s x : Operand)
    (ho : o.op = .call { callee := .builtin .append, args := #[s, x], argTypes := #[t, t] }) (base : Nat) (v : Value) (n : Nat) (xs : List Value) (hs : a.eval s = v) (hown : QRow w base e size v n xs)
    (ao : Option Addr) (m c : Nat) (news : List Value) (hx : a.eval x = .slice ao m c) (hn : News w size ao m news) (h63 : n + m ≤ maxLen) (hbytes : (n + m) * bytes ≤ 140737488355328) (hbase : base ≤ w.heap.size)
    (h : ∀ v' w', Appended w base e size v n m xs news v' w' → K (a.put o.dst v') w') : o.wp P a w K Q := by
  obtain ⟨v', w', hr, h2⟩ := run_append_q T o.type w base v n xs hown ao m c news hn h63 hbytes hbase
  unfold Oper.wp execOp
  simp only [ho, resolve, invoke, builtin, Sem.run_bind, Sem.run_pure, Result.andThen_ok, List.map_toArray, List.map_cons, List.map_nil, hs, hx, hr]
  exact h v' w' h2

theorem wpList_append_q {P : Program} {t e : TypeId} {z : Value} {size bytes : Nat} (T : SlT P t e z size bytes) (w : World) {ops : Array Oper} {rest : List Oper} {o : Oper} {a : Act} {Q : Exit → Act → World → Prop} (hgd : o.guard = none) (s x : Operand)
    (ho : o.op = .call { callee := .builtin .append, args := #[s, x], argTypes := #[t, t] }) (base : Nat) (v : Value) (n : Nat) (xs : List Value) (hs : a.eval s = v) (hown : QRow w base e size v n xs)
    (ao : Option Addr) (m c : Nat) (news : List Value) (hx : a.eval x = .slice ao m c) (hn : News w size ao m news) (h63 : n + m ≤ maxLen) (hbytes : (n + m) * bytes ≤ 140737488355328) (hbase : base ≤ w.heap.size)
    (h : ∀ v' w', Appended w base e size v n m xs news v' w' → wpList P ops Q rest (a.put o.dst v') w') : wpList P ops Q (o :: rest) a w :=
  wpList_plain hgd fun _ hK => wp_append_q T w s x ho base v n xs hs hown ao m c news hx hn h63 hbytes hbase fun v' w' h2 => hK _ _ (h v' w' h2)

theorem q_far {w : World} {base e size n : Nat} {v : Value} {xs : List Value} (h : QRow w base e size v n xs) {p : Addr} (hp : ∀ k, v.ownBlock = some k → k ≠ p.block) (u : Value) : QRow (w.setCell p u) base e size v n xs :=
  q_move h fun k hk => Below.heap_setCell w p u k (hp k hk)
theorem q_below {w w1 : World} {base e size n : Nat} {v : Value} {xs : List Value} (h : QRow w base e size v n xs) (hb : Below w.heap.size w w1) : QRow w1 base e size v n xs :=
  q_move h fun k hk => hb.block k (q_lt h k hk)

/-- What a call may have changed of what there was: the blocks S. -/
structure But (S : Nat → Prop) (w w' : World) : Prop where
  os : w'.os = w.os
  tape : w'.tape = w.tape
  output : w'.output = w.output
  size : w.heap.size ≤ w'.heap.size
  block : ∀ k, k < w.heap.size → ¬ S k → w'.heap[k]? = w.heap[k]?

section
variable {S : Nat → Prop} {w w1 w2 : World}
theorem But.refl (S : Nat → Prop) (w : World) : But S w w := ⟨rfl, rfl, rfl, Nat.le_refl _, fun _ _ _ => rfl⟩
theorem But.trans (h : But S w w1) (k : But S w1 w2) : But S w w2 :=
  ⟨k.os.trans h.os, k.tape.trans h.tape, k.output.trans h.output, Nat.le_trans h.size k.size, fun i hi hs => (k.block i (Nat.lt_of_lt_of_le hi h.size) hs).trans (h.block i hi hs)⟩
theorem But.of_below (h : Below w.heap.size w w1) : But S w w1 := ⟨h.os, h.tape, h.output, h.size, fun k hk _ => h.block k hk⟩
theorem But.mono {S' : Nat → Prop} (h : But S w w1) (hs : ∀ k, k < w.heap.size → S k → S' k) : But S' w w1 := ⟨h.os, h.tape, h.output, h.size, fun k hk hn => h.block k hk (fun hk' => hn (hs k hk hk'))⟩
theorem But.below {B : Nat} (h : But S w w1) (hB : B ≤ w.heap.size) (hs : ∀ k, S k → B ≤ k) : Below B w w1 := ⟨h.os, h.tape, h.output, h.size, fun k hk => h.block k (by omega) (fun hk' => by have := hs k hk'; omega)⟩
theorem But.alloc (h : But S w w1) (o : Obj) : But S w (w1.alloc o) := h.trans (But.of_below ((Below.refl _ _).alloc (Nat.le_refl _) o))
theorem But.drew (h : But S w w1) : But S w w1.drew := ⟨h.os, h.tape, h.output, h.size, h.block⟩
theorem But.set (h : But S w w1) {p : Addr} (hp : w.heap.size ≤ p.block ∨ S p.block) (u : Value) : But S w (w1.setCell p u) := by
  refine ⟨h.os, h.tape, h.output, by simpa using h.size, fun k hk hs => ?_⟩
  have hne : k ≠ p.block := by
    intro e
    subst e
    rcases hp with hp | hp
    · omega
    · exact hs hp
  exact (Below.heap_setCell w1 p u k hne).trans (h.block k hk hs)
theorem But.grown (h : But S w w1) {row : Option Nat} (hg : w1.grownBy w2 row) (hr : ∀ k, row = some k → w.heap.size ≤ k ∨ S k) : But S w w2 := by
  refine ⟨hg.os.trans h.os, hg.tape.trans h.tape, hg.output.trans h.output, Nat.le_trans h.size hg.size, fun k hk hs => ?_⟩
  have hne : some k ≠ row := by
    intro e
    rcases hr k e.symm with h1 | h1
    · omega
    · exact hs h1
  exact (hg.block k (Nat.lt_of_lt_of_le hk h.size) hne).trans (h.block k hk hs)
theorem Has.but {b E : Nat} {cs : List Value} (h : Has w b E cs) (hb : But S w w1) (hs : ¬ S b) : Has w1 b E cs := (hb.block b h.lt hs).trans h
theorem q_but {base e size n : Nat} {v : Value} {xs : List Value} (h : QRow w base e size v n xs) (hb : But S w w1) (hs : ∀ k, v.ownBlock = some k → ¬ S k) : QRow w1 base e size v n xs :=
  q_move h fun k hk => hb.block k (q_lt h k hk) (hs k hk)
end

/-- The empty slice that 'T{}' makes. -/
theorem q_empty (w : World) (e : TypeId) (size : Nat) : QRow (w.alloc (.cells #[] e)) w.heap.size e size (.slice (some ⟨w.heap.size, 0, none⟩) 0 0) 0 [] :=
  ⟨by simp, .inl ⟨rfl, some ⟨w.heap.size, 0, none⟩, rfl, fun a ha => by injection ha with ha; subst ha; exact ⟨Nat.le_refl _, #[], heap_alloc_new w _⟩⟩⟩

theorem q_empty' (w : World) (base b e size : Nat) (hb : b = w.heap.size) (hbase : base ≤ b) : QRow (w.alloc (.cells #[] e)) base e size (.slice (some ⟨b, 0, none⟩) 0 0) 0 [] := by
  subst hb; exact q_lower (q_empty w e size) hbase
theorem q_has {w : World} {base b : Nat} {e size : Nat} {xs rest : List Value} {n cap : Nat} (h : Has w b e (xs ++ rest)) (hb : base ≤ b) (hx : xs.length = n * size) (hnc : n ≤ cap) (hr : xs.length + rest.length = cap * size) (hm : cap ≤ maxLen) : QRow w base e size (.slice (some ⟨b, 0, none⟩) n cap) n xs :=
  ⟨hx, .inr ⟨b, 0, cap, (xs ++ rest).toArray, by simp, hb, h, hnc, by simpa using hm, by simpa using hr, by simp [← hx]⟩⟩

theorem news_of_C {α : Type} {enc : α → Value} {h1 : ∀ x, (enc x).oneCell' = true} {w : World} {A : Option Addr} {n : Nat} {xs : List α} (h : (Kd.scalar enc h1).C w A n xs) : News w 1 A n (xs.map enc) := by
  obtain ⟨hl, _, hc⟩ := h
  refine ⟨by simp [hl], fun u hu => ?_, fun hn => ?_⟩
  · obtain ⟨x, _, rfl⟩ := List.mem_map.1 hu; exact h1 x
  · obtain ⟨ad, hA, hr⟩ := hc hn
    refine ⟨ad, hA, fun j u hu => ?_⟩
    rw [List.getElem?_map] at hu
    obtain ⟨p, hp, rfl⟩ := Option.map_eq_some_iff.1 hu
    obtain ⟨c, _, hc2, hc3⟩ := hr j p hp
    have hc2 : c = [enc p] := hc2
    subst hc2
    have := hc3 0 (enc p) rfl
    show w.cell? (ad.add j) = _
    have e1 : j * (Kd.scalar enc h1).sz + 0 = j := by show j * 1 + 0 = j; omega
    rw [e1] at this; exact this

theorem C_of_q {k : IntKind} {w : World} {base e : Nat} {A : Option Addr} {n c : Nat} {xs : List Int} (h : QRow w base e 1 (.slice A n c) n (xs.map (Value.int k))) : Kd.C (Kd.int k) w A n xs := by
  have hl : xs.length = n := by have := h.1; simpa using this
  refine ⟨hl, q_max h, fun hn => ?_⟩
  obtain ⟨ad, hA, hc⟩ := q_cells h hn
  refine ⟨ad, hA, fun j p hj => ⟨[.int k p], rfl, rfl, fun i u hu => ?_⟩⟩
  have hi : i = 0 := by
    have := (List.getElem?_eq_some_iff.1 hu).1
    simpa using this
  subst hi
  have := hc j (.int k p) (by simp [hj])
  show w.cell? (ad.add (j * 1 + 0)) = _
  rw [show j * 1 + 0 = j by omega, this]; simpa using hu
end Go.Proofs.Ytdfpfchkiogkgaa.H
