/-
  Cells of blocks that stay.
-/
import Derived.Test.YthbfmjlcnfgnbaaGreatEc
namespace Go.Proofs.En
open Go.RowKit

/-- A pair of cells. -/
structure Cells2 (W : World) (b : Nat) (x y : Value) : Prop where
  c0 : W.cell? ⟨b, 0, none⟩ = some x
  c1 : W.cell? ⟨b, 1, none⟩ = some y
  f0 : W.frozen? ⟨b, 0, none⟩ = false
  f1 : W.frozen? ⟨b, 1, none⟩ = false
  lt : b < W.heap.size

theorem Cells2.keep {W W' : World} {b : Nat} {x y : Value} (h : Cells2 W b x y) (hb : Below W.heap.size W W') : Cells2 W' b x y :=
  ⟨(hb.cell (p := ⟨b, 0, none⟩) h.lt).trans h.c0, (hb.cell (p := ⟨b, 1, none⟩) h.lt).trans h.c1, (hb.frozen (p := ⟨b, 0, none⟩) h.lt).trans h.f0, (hb.frozen (p := ⟨b, 1, none⟩) h.lt).trans h.f1, Nat.lt_of_lt_of_le h.lt hb.size⟩
theorem Cells2.new (W : World) (x y : Value) (t : TypeId) : Cells2 (W.alloc (.cells #[x, y] t)) W.heap.size x y :=
  ⟨by simp, by simp, by simp, by simp, by simp⟩

theorem Cells2.al {W : World} {b : Nat} {x y : Value} (h : Cells2 W b x y) (o : Obj) : Cells2 (W.alloc o) b x y := h.keep ((Below.refl _ _).alloc (Nat.le_refl _) _)
theorem Cells2.new' (W : World) (n : Nat) (x y : Value) (t : TypeId) (hn : n = W.heap.size) : Cells2 (W.alloc (.cells #[x, y] t)) n x y := by subst hn; exact Cells2.new W x y t

theorem Cells2.other {W : World} {b b' : Nat} {x y : Value} (h : Cells2 W b x y) (hne : b ≠ b') (o : Nat) (v : Value) : Cells2 (W.setCell ⟨b', o, none⟩ v) b x y := by
  have hb : ∀ k, k ≠ b' → (W.setCell ⟨b', o, none⟩ v).heap[k]? = W.heap[k]? := fun k hk => Below.heap_setCell W ⟨b', o, none⟩ v k hk
  have hB : Below b' W (W.setCell ⟨b', o, none⟩ v) := (Below.refl b' W).setCell (p := ⟨b', o, none⟩) (Nat.le_refl b') v
  refine ⟨?_, ?_, ?_, ?_, Nat.lt_of_lt_of_le h.lt hB.size⟩
  · rw [← h.c0]; simp [World.cell?, hb b hne]
  · rw [← h.c1]; simp [World.cell?, hb b hne]
  · rw [← h.f0]; simp [World.frozen?, hb b hne]
  · rw [← h.f1]; simp [World.frozen?, hb b hne]
theorem Cells2.put {W : World} {b : Nat} {x y : Value} (h : Cells2 W b x y) (x' y' : Value) : Cells2 ((W.setCell ⟨b, 0, none⟩ x').setCell ⟨b, 1, none⟩ y') b x' y' := by
  have h0 := h.c0; have h1 := h.c1; have h2 := h.f0; have h3 := h.f1
  refine ⟨by simp [go_sem, h0], by simp [go_sem, h1], by simp [go_sem, h2], by simp [go_sem, h3], by have := h.lt; simp [World.setCell]; exact this⟩

/-- The first cells of a block. -/
structure Row (W : World) (b : Nat) (l : List Value) : Prop where
  c : ∀ j v, l[j]? = some v → W.cell? ⟨b, j, none⟩ = some v
  lt : b < W.heap.size
theorem Row.keep {W W' : World} {b : Nat} {l : List Value} (h : Row W b l) (hb : Below W.heap.size W W') : Row W' b l :=
  ⟨fun j v hj => (hb.cell (p := ⟨b, j, none⟩) h.lt).trans (h.c j v hj), Nat.lt_of_lt_of_le h.lt hb.size⟩
theorem Row.other {W : World} {b b' : Nat} {l : List Value} (h : Row W b l) (hne : b ≠ b') (o : Nat) (v : Value) : Row (W.setCell ⟨b', o, none⟩ v) b l := by
  have hB : Below b' W (W.setCell ⟨b', o, none⟩ v) := (Below.refl b' W).setCell (p := ⟨b', o, none⟩) (Nat.le_refl b') v
  refine ⟨fun j u hj => ?_, Nat.lt_of_lt_of_le h.lt hB.size⟩
  rw [← h.c j u hj]; simp [World.cell?, Below.heap_setCell W ⟨b', o, none⟩ v b hne]
theorem Row.al {W : World} {b : Nat} {l : List Value} (h : Row W b l) (o : Obj) : Row (W.alloc o) b l := h.keep ((Below.refl _ _).alloc (Nat.le_refl _) _)
theorem Row.new (W : World) (l : List Value) (t : TypeId) : Row (W.alloc (.cells l.toArray t)) W.heap.size l := by
  refine ⟨fun j v hj => ?_, by simp⟩
  have e : (W.alloc (.cells l.toArray t)).heap[W.heap.size]? = some (.cells l.toArray t) := by
    show (W.heap.push (.cells l.toArray t))[W.heap.size]? = _
    exact Array.getElem?_push_size
  exact (cell_of_row _ _ _ _ _ _ e).trans (by simpa using hj)

/-- What the region's loads read, and that nothing that stood has changed. -/
theorem keep4 {W w1 w2 : World} {b0 b1 : Nat} {x y z u : Value} (h0 : b0 < W.heap.size) (h1 : b1 < W.heap.size)
    (h : w1.cell? ⟨b0, 0, none⟩ = some x ∧ w1.cell? ⟨b0, 1, none⟩ = some y ∧ w1.cell? ⟨b1, 0, none⟩ = some z ∧ w1.cell? ⟨b1, 1, none⟩ = some u ∧ Below W.heap.size W w1) (hb : Below w1.heap.size w1 w2) :
    w2.cell? ⟨b0, 0, none⟩ = some x ∧ w2.cell? ⟨b0, 1, none⟩ = some y ∧ w2.cell? ⟨b1, 0, none⟩ = some z ∧ w2.cell? ⟨b1, 1, none⟩ = some u ∧ Below W.heap.size W w2 := by
  obtain ⟨a1, a2, a3, a4, a5⟩ := h
  have l0 := Nat.lt_of_lt_of_le h0 a5.size
  have l1 := Nat.lt_of_lt_of_le h1 a5.size
  exact ⟨(hb.cell (p := ⟨b0, 0, none⟩) l0).trans a1, (hb.cell (p := ⟨b0, 1, none⟩) l0).trans a2, (hb.cell (p := ⟨b1, 0, none⟩) l1).trans a3, (hb.cell (p := ⟨b1, 1, none⟩) l1).trans a4, a5.trans (hb.mono a5.size)⟩

end Go.Proofs.En
