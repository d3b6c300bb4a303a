/-
  Small words on memory for this seat's walks: a block that is known whole (Has), slices of one's own (the words' QRow), what a call leaves alone (Keeps). Plain lemmas; no program in sight.
-/
import Derived.Test.YtnlhcgofkfcljaaWWords
set_option linter.unusedVariables false
set_option linter.unusedSimpArgs false
namespace Go.Proofs.Ytnlhcgofkfcljaa.H
open Go.RowKit Go.Proofs.YtnlhcgofkfcljaaW.PrintWords

/-- Block b holds these cells, of type E; none is frozen. -/
def Has (w : World) (b E : Nat) (cs : List Value) : Prop := w.heap[b]? = some (.cells cs.toArray E (0, 0))

section
variable {w w1 : World} {b E : Nat} {cs : List Value}
theorem Has.out (h : Has w b E cs) : w.heap[b]? = some (.cells cs.toArray E (0, 0)) := h
theorem Has.lt (h : Has w b E cs) : b < w.heap.size := (Array.getElem?_eq_some_iff.1 h.out).1
theorem Has.cell (h : Has w b E cs) (i : Nat) : w.cell? ⟨b, i, none⟩ = cs[i]? := by
  rw [cell_of_row w b i cs.toArray E (0, 0) h]; simp
theorem Has.frozen (h : Has w b E cs) (i : Nat) : w.frozen? ⟨b, i, none⟩ = false := by
  have := h.out; simp [World.frozen?, this]
theorem Has.set (h : Has w b E cs) (i : Nat) (v : Value) : Has (w.setCell ⟨b, i, none⟩ v) b E (cs.set i v) := by
  have := blk_set h i v; simpa [Has] using this
theorem Has.far (h : Has w b E cs) {p : Addr} (hp : b ≠ p.block) (v : Value) : Has (w.setCell p v) b E cs := blk_far h hp v
theorem Has.alloc (h : Has w b E cs) (o : Obj) : Has (w.alloc o) b E cs := blk_alloc h o
theorem Has.drew (h : Has w b E cs) : Has w.drew b E cs := h
theorem Has.drewN (h : Has w b E cs) (n : Nat) : Has (w.drewN n) b E cs := blk_drewN h n
theorem Has.new (w : World) (E : Nat) (cs : List Value) : Has (w.alloc (.cells cs.toArray E)) w.heap.size E cs := heap_alloc_new w _
theorem Has.below {B : Nat} (h : Has w b E cs) (hb : Below B w w1) (hB : b < B) : Has w1 b E cs := (hb.block b hB).trans h
theorem Has.same {b E E' : Nat} {cs cs' : List Value} (h : Has w b E cs) (h' : Has w b E' cs') : cs = cs' ∧ E = E' := by
  have := h.out.symm.trans h'.out; simp at this; exact ⟨this.1, this.2⟩
end
theorem C_of_has {w : World} {b E : Nat} {k : IntKind} {xs : List Int} {rest : List Value} (h : Has w b E (xs.map (Value.int k) ++ rest)) (hl : xs.length ≤ 9223372036854775807) : Kd.C (Kd.int k) w (some ⟨b, 0, none⟩) xs.length xs := by
  refine ⟨rfl, hl, fun _ => ⟨⟨b, 0, none⟩, rfl, fun j p hj => ⟨[.int k p], rfl, rfl, fun i u hu => ?_⟩⟩⟩
  have hi : i = 0 := by
    have := (List.getElem?_eq_some_iff.1 hu).1
    simpa using this
  subst hi
  have hj2 := (List.getElem?_eq_some_iff.1 hj).1
  show w.cell? ((⟨b, 0, none⟩ : Addr).add (j * 1 + 0)) = some u
  rw [add_at, h.cell]
  simp at hu ⊢
  subst hu
  rw [List.getElem?_append_left (by simpa using hj2)]
  simp [hj]
end Go.Proofs.Ytnlhcgofkfcljaa.H
