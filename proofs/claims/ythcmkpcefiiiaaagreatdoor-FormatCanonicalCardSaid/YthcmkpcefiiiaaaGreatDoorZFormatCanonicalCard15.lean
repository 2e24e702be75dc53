/-
  Texts put together: Tj Tk.
-/
import Derived.Test.YthcmkpcefiiiaaaGreatDoorZFormatCanonicalCard14
set_option linter.unusedVariables false
section
/-
 Trees while they are made: what stays when the source moves; whole cells stored. Printed by gen_tj.py.
-/
namespace Go.Proofs.Ng
open Go.RowKit
def setN8 (w : World) (n o : Nat) (a0 a1 a2 a3 a4 a5 a6 a7 : Value) : World := ((((((((w.setCell ⟨n, o, none⟩ a0).setCell ⟨n, o + 1, none⟩ a1).setCell ⟨n, o + 2, none⟩ a2).setCell ⟨n, o + 3, none⟩ a3).setCell ⟨n, o + 4, none⟩ a4).setCell ⟨n, o + 5, none⟩ a5).setCell ⟨n, o + 6, none⟩ a6).setCell ⟨n, o + 7, none⟩ a7)
theorem factsN8 {w : World} {n o : Nat} {l : List Value} (h : Blk w n l) (hl : o + 8 ≤ l.length) (a0 a1 a2 a3 a4 a5 a6 : Value) : ∃ c0 c1 c2 c3 c4 c5 c6 c7 : Value, w.cell? ⟨n, o, none⟩ = some c0 ∧ w.frozen? ⟨n, o, none⟩ = false ∧ (w.setCell ⟨n, o, none⟩ a0).cell? ⟨n, o + 1, none⟩ = some c1 ∧ (w.setCell ⟨n, o, none⟩ a0).frozen? ⟨n, o + 1, none⟩ = false ∧ ((w.setCell ⟨n, o, none⟩ a0).setCell ⟨n, o + 1, none⟩ a1).cell? ⟨n, o + 2, none⟩ = some c2 ∧ ((w.setCell ⟨n, o, none⟩ a0).setCell ⟨n, o + 1, none⟩ a1).frozen? ⟨n, o + 2, none⟩ = false ∧ (((w.setCell ⟨n, o, none⟩ a0).setCell ⟨n, o + 1, none⟩ a1).setCell ⟨n, o + 2, none⟩ a2).cell? ⟨n, o + 3, none⟩ = some c3 ∧ (((w.setCell ⟨n, o, none⟩ a0).setCell ⟨n, o + 1, none⟩ a1).setCell ⟨n, o + 2, none⟩ a2).frozen? ⟨n, o + 3, none⟩ = false ∧ ((((w.setCell ⟨n, o, none⟩ a0).setCell ⟨n, o + 1, none⟩ a1).setCell ⟨n, o + 2, none⟩ a2).setCell ⟨n, o + 3, none⟩ a3).cell? ⟨n, o + 4, none⟩ = some c4 ∧ ((((w.setCell ⟨n, o, none⟩ a0).setCell ⟨n, o + 1, none⟩ a1).setCell ⟨n, o + 2, none⟩ a2).setCell ⟨n, o + 3, none⟩ a3).frozen? ⟨n, o + 4, none⟩ = false ∧ (((((w.setCell ⟨n, o, none⟩ a0).setCell ⟨n, o + 1, none⟩ a1).setCell ⟨n, o + 2, none⟩ a2).setCell ⟨n, o + 3, none⟩ a3).setCell ⟨n, o + 4, none⟩ a4).cell? ⟨n, o + 5, none⟩ = some c5 ∧ (((((w.setCell ⟨n, o, none⟩ a0).setCell ⟨n, o + 1, none⟩ a1).setCell ⟨n, o + 2, none⟩ a2).setCell ⟨n, o + 3, none⟩ a3).setCell ⟨n, o + 4, none⟩ a4).frozen? ⟨n, o + 5, none⟩ = false ∧ ((((((w.setCell ⟨n, o, none⟩ a0).setCell ⟨n, o + 1, none⟩ a1).setCell ⟨n, o + 2, none⟩ a2).setCell ⟨n, o + 3, none⟩ a3).setCell ⟨n, o + 4, none⟩ a4).setCell ⟨n, o + 5, none⟩ a5).cell? ⟨n, o + 6, none⟩ = some c6 ∧ ((((((w.setCell ⟨n, o, none⟩ a0).setCell ⟨n, o + 1, none⟩ a1).setCell ⟨n, o + 2, none⟩ a2).setCell ⟨n, o + 3, none⟩ a3).setCell ⟨n, o + 4, none⟩ a4).setCell ⟨n, o + 5, none⟩ a5).frozen? ⟨n, o + 6, none⟩ = false ∧ (((((((w.setCell ⟨n, o, none⟩ a0).setCell ⟨n, o + 1, none⟩ a1).setCell ⟨n, o + 2, none⟩ a2).setCell ⟨n, o + 3, none⟩ a3).setCell ⟨n, o + 4, none⟩ a4).setCell ⟨n, o + 5, none⟩ a5).setCell ⟨n, o + 6, none⟩ a6).cell? ⟨n, o + 7, none⟩ = some c7 ∧ (((((((w.setCell ⟨n, o, none⟩ a0).setCell ⟨n, o + 1, none⟩ a1).setCell ⟨n, o + 2, none⟩ a2).setCell ⟨n, o + 3, none⟩ a3).setCell ⟨n, o + 4, none⟩ a4).setCell ⟨n, o + 5, none⟩ a5).setCell ⟨n, o + 6, none⟩ a6).frozen? ⟨n, o + 7, none⟩ = false := by
 obtain ⟨c0, e0⟩ : ∃ c, l[o + 0]? = some c := ⟨_, List.getElem?_eq_getElem (by omega)⟩
 obtain ⟨c1, e1⟩ : ∃ c, l[o + 1]? = some c := ⟨_, List.getElem?_eq_getElem (by omega)⟩
 obtain ⟨c2, e2⟩ : ∃ c, l[o + 2]? = some c := ⟨_, List.getElem?_eq_getElem (by omega)⟩
 obtain ⟨c3, e3⟩ : ∃ c, l[o + 3]? = some c := ⟨_, List.getElem?_eq_getElem (by omega)⟩
 obtain ⟨c4, e4⟩ : ∃ c, l[o + 4]? = some c := ⟨_, List.getElem?_eq_getElem (by omega)⟩
 obtain ⟨c5, e5⟩ : ∃ c, l[o + 5]? = some c := ⟨_, List.getElem?_eq_getElem (by omega)⟩
 obtain ⟨c6, e6⟩ : ∃ c, l[o + 6]? = some c := ⟨_, List.getElem?_eq_getElem (by omega)⟩
 obtain ⟨c7, e7⟩ : ∃ c, l[o + 7]? = some c := ⟨_, List.getElem?_eq_getElem (by omega)⟩
 have h0 := h.put (o + 0) a0
 have h1 := h0.put (o + 1) a1
 have h2 := h1.put (o + 2) a2
 have h3 := h2.put (o + 3) a3
 have h4 := h3.put (o + 4) a4
 have h5 := h4.put (o + 5) a5
 have h6 := h5.put (o + 6) a6
 exact ⟨c0, c1, c2, c3, c4, c5, c6, c7, h.c _ _ (by exact e0), h.f _, h0.c _ _ (by rw [List.getElem?_set_ne (by omega)]; exact e1), h0.f _, h1.c _ _ (by rw [List.getElem?_set_ne (by omega), List.getElem?_set_ne (by omega)]; exact e2), h1.f _, h2.c _ _ (by rw [List.getElem?_set_ne (by omega), List.getElem?_set_ne (by omega), List.getElem?_set_ne (by omega)]; exact e3), h2.f _, h3.c _ _ (by rw [List.getElem?_set_ne (by omega), List.getElem?_set_ne (by omega), List.getElem?_set_ne (by omega), List.getElem?_set_ne (by omega)]; exact e4), h3.f _, h4.c _ _ (by rw [List.getElem?_set_ne (by omega), List.getElem?_set_ne (by omega), List.getElem?_set_ne (by omega), List.getElem?_set_ne (by omega), List.getElem?_set_ne (by omega)]; exact e5), h4.f _, h5.c _ _ (by rw [List.getElem?_set_ne (by omega), List.getElem?_set_ne (by omega), List.getElem?_set_ne (by omega), List.getElem?_set_ne (by omega), List.getElem?_set_ne (by omega), List.getElem?_set_ne (by omega)]; exact e6), h5.f _, h6.c _ _ (by rw [List.getElem?_set_ne (by omega), List.getElem?_set_ne (by omega), List.getElem?_set_ne (by omega), List.getElem?_set_ne (by omega), List.getElem?_set_ne (by omega), List.getElem?_set_ne (by omega), List.getElem?_set_ne (by omega)]; exact e7), h6.f _⟩
theorem othN8 (w : World) (n o : Nat) (a0 a1 a2 a3 a4 a5 a6 a7 : Value) : ∀ k, k ≠ n → (setN8 w n o a0 a1 a2 a3 a4 a5 a6 a7).heap[k]? = w.heap[k]? := by
 intro k hk
 unfold setN8
 rw [Below.heap_setCell _ ⟨n, o + 7, none⟩ _ k hk, Below.heap_setCell _ ⟨n, o + 6, none⟩ _ k hk, Below.heap_setCell _ ⟨n, o + 5, none⟩ _ k hk, Below.heap_setCell _ ⟨n, o + 4, none⟩ _ k hk, Below.heap_setCell _ ⟨n, o + 3, none⟩ _ k hk, Below.heap_setCell _ ⟨n, o + 2, none⟩ _ k hk, Below.heap_setCell _ ⟨n, o + 1, none⟩ _ k hk, Below.heap_setCell _ ⟨n, o, none⟩ _ k hk]
theorem belN8 (w : World) (n o B : Nat) (h : B ≤ n) (a0 a1 a2 a3 a4 a5 a6 a7 : Value) : Below B w (setN8 w n o a0 a1 a2 a3 a4 a5 a6 a7) := by
 unfold setN8
 exact (((((((((Below.refl B w).setCell (p := ⟨n, o, none⟩) (by exact h) a0).setCell (p := ⟨n, o + 1, none⟩) (by exact h) a1).setCell (p := ⟨n, o + 2, none⟩) (by exact h) a2).setCell (p := ⟨n, o + 3, none⟩) (by exact h) a3).setCell (p := ⟨n, o + 4, none⟩) (by exact h) a4).setCell (p := ⟨n, o + 5, none⟩) (by exact h) a5).setCell (p := ⟨n, o + 6, none⟩) (by exact h) a6).setCell (p := ⟨n, o + 7, none⟩) (by exact h) a7)
theorem szN8 (w : World) (n o : Nat) (a0 a1 a2 a3 a4 a5 a6 a7 : Value) : (setN8 w n o a0 a1 a2 a3 a4 a5 a6 a7).heap.size = w.heap.size := by simp [setN8, World.setCell]
def setN5 (w : World) (n o : Nat) (a0 a1 a2 a3 a4 : Value) : World := (((((w.setCell ⟨n, o, none⟩ a0).setCell ⟨n, o + 1, none⟩ a1).setCell ⟨n, o + 2, none⟩ a2).setCell ⟨n, o + 3, none⟩ a3).setCell ⟨n, o + 4, none⟩ a4)
theorem factsN5 {w : World} {n o : Nat} {l : List Value} (h : Blk w n l) (hl : o + 5 ≤ l.length) (a0 a1 a2 a3 : Value) : ∃ c0 c1 c2 c3 c4 : Value, w.cell? ⟨n, o, none⟩ = some c0 ∧ w.frozen? ⟨n, o, none⟩ = false ∧ (w.setCell ⟨n, o, none⟩ a0).cell? ⟨n, o + 1, none⟩ = some c1 ∧ (w.setCell ⟨n, o, none⟩ a0).frozen? ⟨n, o + 1, none⟩ = false ∧ ((w.setCell ⟨n, o, none⟩ a0).setCell ⟨n, o + 1, none⟩ a1).cell? ⟨n, o + 2, none⟩ = some c2 ∧ ((w.setCell ⟨n, o, none⟩ a0).setCell ⟨n, o + 1, none⟩ a1).frozen? ⟨n, o + 2, none⟩ = false ∧ (((w.setCell ⟨n, o, none⟩ a0).setCell ⟨n, o + 1, none⟩ a1).setCell ⟨n, o + 2, none⟩ a2).cell? ⟨n, o + 3, none⟩ = some c3 ∧ (((w.setCell ⟨n, o, none⟩ a0).setCell ⟨n, o + 1, none⟩ a1).setCell ⟨n, o + 2, none⟩ a2).frozen? ⟨n, o + 3, none⟩ = false ∧ ((((w.setCell ⟨n, o, none⟩ a0).setCell ⟨n, o + 1, none⟩ a1).setCell ⟨n, o + 2, none⟩ a2).setCell ⟨n, o + 3, none⟩ a3).cell? ⟨n, o + 4, none⟩ = some c4 ∧ ((((w.setCell ⟨n, o, none⟩ a0).setCell ⟨n, o + 1, none⟩ a1).setCell ⟨n, o + 2, none⟩ a2).setCell ⟨n, o + 3, none⟩ a3).frozen? ⟨n, o + 4, none⟩ = false := by
 obtain ⟨c0, e0⟩ : ∃ c, l[o + 0]? = some c := ⟨_, List.getElem?_eq_getElem (by omega)⟩
 obtain ⟨c1, e1⟩ : ∃ c, l[o + 1]? = some c := ⟨_, List.getElem?_eq_getElem (by omega)⟩
 obtain ⟨c2, e2⟩ : ∃ c, l[o + 2]? = some c := ⟨_, List.getElem?_eq_getElem (by omega)⟩
 obtain ⟨c3, e3⟩ : ∃ c, l[o + 3]? = some c := ⟨_, List.getElem?_eq_getElem (by omega)⟩
 obtain ⟨c4, e4⟩ : ∃ c, l[o + 4]? = some c := ⟨_, List.getElem?_eq_getElem (by omega)⟩
 have h0 := h.put (o + 0) a0
 have h1 := h0.put (o + 1) a1
 have h2 := h1.put (o + 2) a2
 have h3 := h2.put (o + 3) a3
 exact ⟨c0, c1, c2, c3, c4, h.c _ _ (by exact e0), h.f _, h0.c _ _ (by rw [List.getElem?_set_ne (by omega)]; exact e1), h0.f _, h1.c _ _ (by rw [List.getElem?_set_ne (by omega), List.getElem?_set_ne (by omega)]; exact e2), h1.f _, h2.c _ _ (by rw [List.getElem?_set_ne (by omega), List.getElem?_set_ne (by omega), List.getElem?_set_ne (by omega)]; exact e3), h2.f _, h3.c _ _ (by rw [List.getElem?_set_ne (by omega), List.getElem?_set_ne (by omega), List.getElem?_set_ne (by omega), List.getElem?_set_ne (by omega)]; exact e4), h3.f _⟩
theorem othN5 (w : World) (n o : Nat) (a0 a1 a2 a3 a4 : Value) : ∀ k, k ≠ n → (setN5 w n o a0 a1 a2 a3 a4).heap[k]? = w.heap[k]? := by
 intro k hk
 unfold setN5
 rw [Below.heap_setCell _ ⟨n, o + 4, none⟩ _ k hk, Below.heap_setCell _ ⟨n, o + 3, none⟩ _ k hk, Below.heap_setCell _ ⟨n, o + 2, none⟩ _ k hk, Below.heap_setCell _ ⟨n, o + 1, none⟩ _ k hk, Below.heap_setCell _ ⟨n, o, none⟩ _ k hk]
theorem belN5 (w : World) (n o B : Nat) (h : B ≤ n) (a0 a1 a2 a3 a4 : Value) : Below B w (setN5 w n o a0 a1 a2 a3 a4) := by
 unfold setN5
 exact ((((((Below.refl B w).setCell (p := ⟨n, o, none⟩) (by exact h) a0).setCell (p := ⟨n, o + 1, none⟩) (by exact h) a1).setCell (p := ⟨n, o + 2, none⟩) (by exact h) a2).setCell (p := ⟨n, o + 3, none⟩) (by exact h) a3).setCell (p := ⟨n, o + 4, none⟩) (by exact h) a4)
theorem ownN8 {W : World} {base n c g size o : Nat} {t : TypeId} {xs : List Value} (h : W.ownsRow base t size (.slice (some ⟨g, 0, none⟩) n c) n xs) (hn : 0 < n) (a0 a1 a2 a3 a4 a5 a6 a7 : Value) : (setN8 W g o a0 a1 a2 a3 a4 a5 a6 a7).ownsRow base t size (.slice (some ⟨g, 0, none⟩) n c) n ((((((((xs.set (o) a0).set (o + 1) a1).set (o + 2) a2).set (o + 3) a3).set (o + 4) a4).set (o + 5) a5).set (o + 6) a6).set (o + 7) a7) := by
 have h0 := own_set1 h (o) hn a0
 have h1 := own_set1 h0 (o + 1) hn a1
 have h2 := own_set1 h1 (o + 2) hn a2
 have h3 := own_set1 h2 (o + 3) hn a3
 have h4 := own_set1 h3 (o + 4) hn a4
 have h5 := own_set1 h4 (o + 5) hn a5
 have h6 := own_set1 h5 (o + 6) hn a6
 have h7 := own_set1 h6 (o + 7) hn a7
 exact h7
theorem ownN5 {W : World} {base n c g size o : Nat} {t : TypeId} {xs : List Value} (h : W.ownsRow base t size (.slice (some ⟨g, 0, none⟩) n c) n xs) (hn : 0 < n) (a0 a1 a2 a3 a4 : Value) : (setN5 W g o a0 a1 a2 a3 a4).ownsRow base t size (.slice (some ⟨g, 0, none⟩) n c) n (((((xs.set (o) a0).set (o + 1) a1).set (o + 2) a2).set (o + 3) a3).set (o + 4) a4) := by
 have h0 := own_set1 h (o) hn a0
 have h1 := own_set1 h0 (o + 1) hn a1
 have h2 := own_set1 h1 (o + 2) hn a2
 have h3 := own_set1 h2 (o + 3) hn a3
 have h4 := own_set1 h3 (o + 4) hn a4
 exact h4
/-- The blocks that count: all but those in E. -/
def Sx (E : List Nat) (W : World) : Nat → Prop := fun k => k ∉ E ∧ k < W.heap.size
theorem Fp.sx {E : List Nat} {W X : World} {Q : World → Prop} (h : Fp (Sx E W) W Q) (hz : W.heap.size ≤ X.heap.size) (hk : ∀ k, k ∉ E → k < W.heap.size → X.heap[k]? = W.heap[k]?) : Fp (Sx E X) X Q :=
 fun Y hY => h Y fun k hk2 => (hY k ⟨hk2.1, Nat.lt_of_lt_of_le hk2.2 hz⟩).trans (hk k hk2.1 hk2.2)
theorem Fp.sxb {E : List Nat} {W X : World} {Q : World → Prop} (h : Fp (Sx E W) W Q) (hb : Below W.heap.size W X) : Fp (Sx E X) X Q := h.sx hb.size fun k _ hk => hb.block k hk
theorem Fp.fresh {E : List Nat} {W X : World} {Q : World → Prop} {n : Nat} (h : Fp (Sx E W) W Q) (hb : Below W.heap.size W X) (hn : W.heap.size ≤ n) : Fp (Sx (n :: E) X) X Q :=
 fun Y hY => h Y fun k hk => (hY k ⟨fun hm => by
  rcases List.mem_cons.1 hm with e | e
  ·have := hk.2; omega
  ·exact hk.1 e, Nat.lt_of_lt_of_le hk.2 hb.size⟩).trans (hb.block k hk.2)
theorem Fp.less {E : List Nat} {W : World} {Q : World → Prop} {n : Nat} (h : Fp (Sx (n :: E) W) W Q) : Fp (Sx E W) W Q := h.mono fun k hk => ⟨fun hm => hk.1 (List.mem_cons_of_mem _ hm), hk.2⟩
theorem New.sx {E : List Nat} {lo : Nat} {W : World} {Q : World → Prop} (h : New lo W Q) (hl : ∀ k ∈ E, k < lo) : Fp (Sx E W) W Q := h.mono fun k hk => ⟨fun hm => by have := hl k hm; have := hk.1; omega, hk.2⟩
/-- A tree in memory, its rows named: the blocks of E may change. -/
structure FT (E : List Nat) (W : World) (v : Value) (t : Fm.TreeD) (rows : List (List Value)) : Prop where
 form : ∃ or cr oc cc, v = .agg #[.slice or t.root.length cr, .slice oc t.cells.length cc] ∧ Fp (Sx E W) W (fun X => Sl X or 2 (ivs t.root)) ∧ Fp (Sx E W) W (fun X => Sl X oc 8 rows)
 len : rows.length = t.cells.length
 wid : ∀ r ∈ rows, r.length = 8
 cell : ∀ (k : Nat) (r : List Value) (u : Fm.CellD), rows[k]? = some r → t.cells[k]? = some u → Fp (Sx E W) W (fun X => CellAt X r u)
theorem FT.maps {E E' : List Nat} {W X : World} {v : Value} {t : Fm.TreeD} {rows : List (List Value)} (h : FT E W v t rows) (f : ∀ {Q : World → Prop}, Fp (Sx E W) W Q → Fp (Sx E' X) X Q) : FT E' X v t rows := by
 obtain ⟨or, cr, oc, cc, e, h1, h2⟩ := h.form
 exact ⟨⟨or, cr, oc, cc, e, f h1, f h2⟩, h.len, h.wid, fun k r u hr hu => f (h.cell k r u hr hu)⟩
theorem FT.keepS {E : List Nat} {W X : World} {v : Value} {t : Fm.TreeD} {rows : List (List Value)} (h : FT E W v t rows) (hz : W.heap.size ≤ X.heap.size) (hk : ∀ k, k ∉ E → k < W.heap.size → X.heap[k]? = W.heap[k]?) : FT E X v t rows := h.maps fun q => q.sx hz hk
theorem FT.keep {E : List Nat} {W X : World} {v : Value} {t : Fm.TreeD} {rows : List (List Value)} (h : FT E W v t rows) (hb : Below W.heap.size W X) : FT E X v t rows := h.maps fun q => q.sxb hb
theorem FT.fresh {E : List Nat} {W X : World} {v : Value} {t : Fm.TreeD} {rows : List (List Value)} {n : Nat} (h : FT E W v t rows) (hb : Below W.heap.size W X) (hn : W.heap.size ≤ n) : FT (n :: E) X v t rows := h.maps fun q => q.fresh hb hn
theorem FT.less {E : List Nat} {W : World} {v : Value} {t : Fm.TreeD} {rows : List (List Value)} {n : Nat} (h : FT (n :: E) W v t rows) : FT E W v t rows := h.maps fun q => q.less
theorem FT.next {E : List Nat} {nS : Nat} {W X : World} {v : Value} {t : Fm.TreeD} {rows : List (List Value)} (h : FT E W v t rows) (hE : nS ∈ E) (hg : W.grownBy X (some nS)) : FT E X v t rows := h.keepS hg.size fun k h1 hk => hg.block k hk (fun e => h1 (by rw [show k = nS from by first | exact Option.some.inj e | exact (Option.some.inj e).symm]; exact hE))
theorem FT.put {E : List Nat} {n i : Nat} {W : World} {u v : Value} {t : Fm.TreeD} {rows : List (List Value)} (h : FT E W v t rows) (hE : n ∈ E) : FT E (W.setCell ⟨n, i, none⟩ u) v t rows := h.keepS (by simp [World.setCell]) fun k h1 _ => Below.heap_setCell W ⟨n, i, none⟩ u k (fun e => h1 (by rw [show k = n from e]; exact hE))
theorem FT.at {E : List Nat} {W : World} {v : Value} {t : Fm.TreeD} {rows : List (List Value)} (h : FT E W v t rows) : TreeAt W v t := by
 obtain ⟨or, cr, oc, cc, e, h1, h2⟩ := h.form
 exact ⟨or, cr, oc, cc, e, h1.now, ⟨rows, h.len, h2.now, fun k r u hr hu => (h.cell k r u hr hu).now⟩⟩
/-- A row in a list of rows put anew: the flat list. -/
theorem flat_put8 : ∀ {rows : List (List Value)} {i : Nat} (a0 a1 a2 a3 a4 a5 a6 a7 : Value), (∀ r ∈ rows, r.length = 8) → i < rows.length → (rows.set i [a0, a1, a2, a3, a4, a5, a6, a7]).flatten = (((((((rows.flatten.set (i * 8) a0).set (i * 8 + 1) a1).set (i * 8 + 2) a2).set (i * 8 + 3) a3).set (i * 8 + 4) a4).set (i * 8 + 5) a5).set (i * 8 + 6) a6).set (i * 8 + 7) a7
 | [], i, _, _, _, _, _, _, _, _, _, h => by simp at h
 | r :: rows, 0, a0, a1, a2, a3, a4, a5, a6, a7, hw, _ => by
  have hr := hw r (by simp)
  match r, hr with
  | [x0, x1, x2, x3, x4, x5, x6, x7], _ => simp
 | r :: rows, i + 1, a0, a1, a2, a3, a4, a5, a6, a7, hw, h => by
  have hr := hw r (by simp)
  have ih := flat_put8 (rows := rows) (i := i) a0 a1 a2 a3 a4 a5 a6 a7 (fun q hq => hw q (by simp [hq])) (by simpa using h)
  match r, hr with
  | [x0, x1, x2, x3, x4, x5, x6, x7], _ =>
   rw [List.set_cons_succ, List.flatten_cons, ih, List.flatten_cons]
   rw [show (i + 1) * 8 = i * 8 + 8 by omega]
   rfl
theorem flat_len8 : ∀ {rows : List (List Value)}, (∀ r ∈ rows, r.length = 8) → rows.flatten.length = rows.length * 8
 | [], _ => rfl
 | r :: rows, hw => by
  have := flat_len8 (rows := rows) fun q hq => hw q (by simp [hq])
  rw [List.flatten_cons, List.length_append, hw r (by simp), this, List.length_cons]
  omega
theorem flat_get8 {rows : List (List Value)} {i j : Nat} {r : List Value} {v : Value} (hw : ∀ r ∈ rows, r.length = 8) (hr : rows[i]? = some r) (hv : r[j]? = some v) : rows.flatten[i * 8 + j]? = some v := flat_get rows 8 hw i r hr j v hv
theorem sl_addr8 {W : World} {g off : Nat} : ∀ {rows : List (List Value)}, (∀ r ∈ rows, r.length = 8) → RowsAt W g off 8 rows → ∀ j u, rows.flatten[j]? = some u → W.cell? ((⟨g, off, none⟩ : Addr).add j) = some u := by
 intro rows hw h j u hu
 have hj : j < rows.flatten.length := (List.getElem?_eq_some_iff.1 hu).1
 rw [flat_len8 hw] at hj
 have hq : j / 8 < rows.length := by omega
 obtain ⟨r, hr⟩ : ∃ r, rows[j / 8]? = some r := ⟨_, List.getElem?_eq_getElem hq⟩
 have hrl := hw r (List.mem_of_getElem? hr)
 obtain ⟨v, hv⟩ : ∃ v, r[j % 8]? = some v := ⟨_, List.getElem?_eq_getElem (by omega)⟩
 have h1 := flat_get8 hw hr hv
 rw [show j / 8 * 8 + j % 8 = j by omega, hu] at h1
 injection h1 with h1
 subst h1
 have h2 := h.c _ _ hr _ _ hv
 rw [show j / 8 * 8 + j % 8 = j by omega] at h2
 rw [← h2]
 congr 1
 unfold Addr.add
 split <;> simp_all
theorem rows_one {W : World} {rows : List (List Value)} {l : List Fm.CellD} (_hw : ∀ r ∈ rows, r.length = 8) (hl : ∀ (k : Nat) (r : List Value), rows[k]? = some r → ∃ u, l[k]? = some u) (hc : ∀ (k : Nat) (r : List Value) (u : Fm.CellD), rows[k]? = some r → l[k]? = some u → CellAt W r u) : ∀ u ∈ rows.flatten, u.oneCell' = true := by
 intro u hu
 obtain ⟨r, hr, hm⟩ := List.mem_flatten.1 hu
 obtain ⟨k, hk⟩ := List.getElem?_of_mem hr
 obtain ⟨c, hc2⟩ := hl k r hk
 obtain ⟨on, ol, or, cn, cl, cr, rfl, -⟩ := hc k r c hk hc2
 simp [celV] at hm
 rcases hm with rfl | rfl | rfl | rfl | rfl | rfl | rfl | rfl <;> rfl
theorem row8 {W : World} {b off k : Nat} {rows : List (List Value)} {v0 v1 v2 v3 v4 v5 v6 v7 : Value} (h : RowsAt W b off 8 rows) (hr : rows[k]? = some [v0, v1, v2, v3, v4, v5, v6, v7]) :
  W.cell? ⟨b, off + k * 8, none⟩ = some v0 ∧ W.cell? ⟨b, off + k * 8 + 1, none⟩ = some v1 ∧ W.cell? ⟨b, off + k * 8 + 2, none⟩ = some v2 ∧ W.cell? ⟨b, off + k * 8 + 3, none⟩ = some v3 ∧ W.cell? ⟨b, off + k * 8 + 4, none⟩ = some v4 ∧ W.cell? ⟨b, off + k * 8 + 5, none⟩ = some v5 ∧ W.cell? ⟨b, off + k * 8 + 6, none⟩ = some v6 ∧ W.cell? ⟨b, off + k * 8 + 7, none⟩ = some v7 ∧ b < W.heap.size :=
 ⟨h.c k _ hr 0 _ rfl, h.c k _ hr 1 _ rfl, h.c k _ hr 2 _ rfl, h.c k _ hr 3 _ rfl, h.c k _ hr 4 _ rfl, h.c k _ hr 5 _ rfl, h.c k _ hr 6 _ rfl, h.c k _ hr 7 _ rfl, h.lt⟩
theorem own_sl8 {W : World} {base g n c lo : Nat} {rows : List (List Value)} (h : W.ownsRow base 85 8 (.slice (some ⟨g, 0, none⟩) n c) n rows.flatten) (hw : ∀ r ∈ rows, r.length = 8) (hn : rows.length = n) (hl : lo ≤ base) : New lo W (fun X => Sl X (some ⟨g, 0, none⟩) 8 rows) := by
 intro W' hW'
 have hO := own_blk (W' := W') h fun k hk hlt hb => hW' k ⟨Nat.le_trans hl hb, hlt⟩
 rw [← hn] at hO
 obtain ⟨oa, cap, e, hs⟩ := own_rows hw hO
 injection e with e _ _
 rw [e]; exact hs
theorem own_Blk {W : World} {base g n c size : Nat} {t : TypeId} {xs : List Value} (h : W.ownsRow base t size (.slice (some ⟨g, 0, none⟩) n c) n xs) (hn : 0 < n) : Blk W g xs := ⟨fun i v hv => own_at h i v hv, own_frozen h hn, (own_lt h g rfl).1⟩
theorem info85 : (Tryz.prog.info? 85).map (fun i => (i.zero, i.size, i.bytes)) = some (some (.agg #[.int .i64 0, .int .i64 0, .int .i64 0, .int .i64 0, .slice none 0 0, .int .i64 0, .slice none 0 0, .slice none 0 0]), 8, 112) := by kernel_rfl
theorem under34 : Tryz.prog.underlying 34 = some (.slice 85) := by kernel_rfl
set_option maxRecDepth 100000 in
set_option maxHeartbeats 8000000 in
theorem validTree32 (w : World) (v : Value) (t : Fm.TreeD) (h : TreeAt w v t) (hv : Fm.validT t = true) : Calls Tryz.prog 32 #[v] w (BoolP true w) := by
 obtain ⟨-, out, ho, -⟩ := Fm.valid_un hv
 have H := Lib.hid (fun X (hX : Below w.heap.size w X) => boxes60 X v t out (h.keep hX) ho)
 obtain ⟨or, cr, oc, cc, rfl, -, -⟩ := h
 generalize t.root.length = J at H ⊢
 have hb : Below w.heap.size w (w.alloc (.cells #[.slice or J cr, .slice oc t.cells.length cc] 36)) := (Below.refl _ _).alloc (Nat.le_refl _) _
 go_enter Tryz.func32, Tryz.ntmps32
 go_wp2_with fail
 refine (H.out _ hb).mono ?_
 rintro e W1 ⟨g, cs, rfl, -, -, hw⟩
 have hb1 := below_call hb hw
 clear hw hb
 go_wp2
 go_ret
 exact boolP_mk rfl hb1
end Go.Proofs.Ng
end

section
/-
 Walks: the leaves of a tree; the tree of one cell.
-/
namespace Go.Proofs.Ng
open Go.RowKit
/-- Indexes of leaves. -/
def LeafIx (t : Fm.TreeD) (ls : List Int) : Prop := ∀ x ∈ ls, ∃ (i : Nat) (c : Fm.CellD), x = (i : Nat) ∧ t.cells[i]? = some c ∧ Fm.leafB c = true
def LvP (t : Fm.TreeD) (w : World) (e : Ending) (W : World) : Prop := ∃ oa cap ls, e = .returned (.slice oa ls.length cap) ∧ 1 ≤ ls.length ∧ ls.length ≤ t.cells.length ∧ LeafIx t ls ∧ New w.heap.size W (fun X => Sl X oa 1 (pvals ls)) ∧ Below w.heap.size w W
theorem own_new1 {W : World} {base lo : Nat} {ty : TypeId} {v : Value} {ns : List Int} (h : W.ownsRow base ty 1 v ns.length (pflat ns)) (hl : lo ≤ base) : ∃ oa cap, v = .slice oa ns.length cap ∧ New lo W (fun X => Sl X oa 1 (pvals ns)) := by
 obtain ⟨oa, cap, rfl, hs⟩ := own_nums h
 refine ⟨oa, cap, rfl, fun W' hW' => ?_⟩
 have hO : W'.ownsRow base ty 1 (.slice oa ns.length cap) ns.length (pflat ns) := own_blk h fun g _ hl' hb => hW' g ⟨Nat.le_trans hl hb, hl'⟩
 obtain ⟨oa', cap', e, hs'⟩ := own_nums hO
 injection e with e _ _
 rw [e]; exact hs'
set_option maxRecDepth 100000 in
set_option maxHeartbeats 8000000 in
theorem leaves63 (w : World) (v : Value) (t : Fm.TreeD) (h : TreeAt w v t) (hv : Fm.validT t = true) : Calls Tryz.prog 63 #[v] w (LvP t w) := by
 have hvs := (Fm.size_un (Fm.valid_un hv).1).2.2.1
 have hvs2 := (Fm.size_un (Fm.valid_un hv).1).2.2.2.1
 obtain ⟨cl0, hcl1, hcl2⟩ := Fm.last_leaf hv
 have HLL := Lib.hid (And.intro hcl1 hcl2)
 have H32 := Lib.hid (fun X (hX : Below w.heap.size w X) => validTree32 X v t (h.keep hX) hv)
 obtain ⟨or, cr, oc, cc, rfl, -, hc⟩ := h
 have HC := Lib.hid hc
 clear hc hcl1 hcl2
 unfold LvP
 generalize t.root.length = J at H32 ⊢
 generalize hN : t.cells.length = N at H32 hvs hvs2 HLL ⊢
 have HN := Lib.hid hN
 clear hN
 have hb : Below w.heap.size w (w.alloc (.cells #[.slice or J cr, .slice oc N cc] 36)) := (Below.refl _ _).alloc (Nat.le_refl _) _
 have hx := Bx.new w [.slice or J cr, .slice oc N cc] 36
 obtain ⟨i0, hi0, hz0, hz1, hz2⟩ := info_parts info3
 go_enter Tryz.func63, Tryz.ntmps63
 go_wp2_with fail
 refine (H32.out _ hb).mono ?_
 rintro e W1 ⟨rfl, hw⟩
 have hb1 := below_call hb hw
 replace hx := hx.keep hw
 obtain ⟨n1, hn1⟩ : ∃ n, n = w.heap.size := ⟨_, rfl⟩
 rw [← hn1] at hx ⊢
 clear hw hb hn1
 go_wp2_with fail
 go_loopw [3, 4] (fun v i W => ∃ (k : Nat) (ls : List Int), k ≤ N ∧ i = .int .i64 (k : Nat) ∧ W.ownsRow w.heap.size 3 1 v ls.length (pflat ls) ∧ LeafIx t ls ∧ ls.length ≤ k ∧ (∀ (j : Nat) (c : Fm.CellD), j < k → t.cells[j]? = some c → Fm.leafB c = true → 1 ≤ ls.length) ∧ Bx W n1 [.slice or J cr, .slice oc N cc] 36 ∧ Below w.heap.size w W) (fun _ i _ => N - (intOf i).toNat)
 case atStart => exact ⟨0, [], Nat.zero_le _, rfl, World.ownsRow_nil _ _ _ _, (fun x hx => by cases hx), Nat.le_refl _, (fun j c hj => by omega), hx, hb1⟩
 case round =>
  obtain ⟨k, ls, hk, rfl, hO, hI, hl, hP, hX, hB⟩ := hrel
  have y0 := hX.c 0 _ rfl
  have y1 := hX.c 1 _ rfl
  have ly := hX.lt
  by_cases hlt : k < N
  ·obtain ⟨u, hu⟩ : ∃ u, t.cells[k]? = some u := ⟨_, List.getElem?_eq_getElem (by rw [HN.out]; exact hlt)⟩
   obtain ⟨gc, oc', on, ol, orr, cn, cl, crr, e1, glt, z0, z1, z2, z3, z4, z5, z6, z7, s1, s2, s3⟩ := (HC.out.keep hB).get hu
   subst e1
   clear s1 s2 s3
   have HO := Lib.hid hO
   have HI := Lib.hid hI
   have HP := Lib.hid hP
   have HU := Lib.hid hu
   clear hO hI hP hu
   go_wp2_with fail
   refine (leaf90 u on ol orr cn cl crr _).mono ?_
   rintro e W2 ⟨rfl, hw⟩
   have HX := Lib.hid (hX.keep hw)
   have HB := Lib.hid (below_call hB hw)
   replace HO := Lib.hid (own_keep HO.out hw)
   clear hX hB hw y0 y1 ly z0 z1 z2 z3 z4 z5 z6 z7 glt
   cases hlb : Fm.leafB u with
   | true =>
    have hb2 : Below W2.heap.size W2 (W2.alloc (.cells #[.int .i64 (k : Nat)] 3)) := (Below.refl _ _).alloc (Nat.le_refl _) _
    have HO2 := Lib.hid (own_keep HO.out hb2)
    have HX2 := Lib.hid (HX.out.keep hb2)
    have HBC := Lib.hid (below_call HB.out hb2)
    clear hb2
    go_wp2_with (at_builtin; refine wpList_append_own _ rfl _ _ 22 rfl w.heap.size 3 i0 (.int .i64 0) 1 8 under26 hi0 hz0 hz1 hz2 rfl (by decide) _ _ _ rfl HO2.out ⟨W2.heap.size, 0, none⟩ 1 1 [.int .i64 (k : Nat)] rfl rfl ?c1 ?c2 ?c3 ?c4 ?c5 ?_)
    case c1 => exact new_cells _ _ _
    case c2 => intro u hu; simp at hu; subst hu; rfl
    case c3 => unfold maxLen; omega
    case c4 => omega
    case c5 => exact HBC.out.size
    intro v' w' hown' hgrow _
    have HO3 : Hid (w'.ownsRow w.heap.size 3 1 v' (ls ++ [(k : Int)]).length (pflat (ls ++ [(k : Int)]))) := Lib.hid (by rw [pflat_app, List.length_append]; exact hown')
    have HB3 := Lib.hid (HBC.out.trans (grown_below HO2.out hgrow HBC.out.size))
    have HX3 : Hid (Bx w' n1 [.slice or J cr, .slice (some ⟨gc, oc', none⟩) N cc] 36) := Lib.hid ⟨(hgrow.block n1 HX2.out.lt (fun e => by
     have h1 := own_type HO2.out n1 e.symm
     obtain ⟨c, fz, h1⟩ := h1
     rw [HX2.out.h] at h1
     injection h1 with h1
     injection h1 with _ h1 _
     exact absurd h1 (by decide))).trans HX2.out.h⟩
    clear hown' hgrow HO2 HBC HO HX2
    go_wp2_with fail
    go_roundw
    case rel =>
     refine ⟨k + 1, ls ++ [(k : Int)], by omega, by simp, HO3.out, fun x hx => ?_, by simp; omega, fun j c hj hc hb => by simp, HX3.out, HB3.out⟩
     rw [List.mem_append, List.mem_singleton] at hx
     rcases hx with hx | rfl
     ·exact HI.out x hx
     ·exact ⟨k, u, rfl, HU.out, hlb⟩
    case measure => simp [intOf]; omega
   | false =>
    go_wp2_with fail
    go_roundw
    case rel =>
     refine ⟨k + 1, ls, by omega, by simp, HO.out, HI.out, by omega, fun j c hj hc hb => ?_, HX.out, HB.out⟩
     rcases Nat.lt_or_ge j k with h | h
     ·exact HP.out j c h hc hb
     ·have : j = k := by omega
      subst this
      rw [HU.out] at hc
      injection hc with hc
      rw [← hc, hlb] at hb
      cases hb
    case measure => simp [intOf]; omega
  ·have hke : N = k := by omega
   subst hke
   have h1 := hP (N - 1) cl0 (by omega) HLL.out.1 HLL.out.2
   obtain ⟨oa, cap, rfl, hn⟩ := own_new1 hO (Nat.le_refl _)
   have HNN := Lib.hid hn
   clear hO hP hn
   go_wp2
   go_ret
   exact ⟨oa, cap, ls, rfl, h1, hl, hI, HNN.out, hB⟩
theorem news1 (w : World) (a : List Value) (s : TypeId) : ∃ p : Nat, p = w.heap.size ∧ Bx (w.alloc (.cells a.toArray s)) p a s ∧ Below w.heap.size w (w.alloc (.cells a.toArray s)) := by
 have b0 := Bx.new w a s
 have r0 := b0
 exact ⟨_, rfl, r0, ((Below.refl w.heap.size w).alloc (by simp <;> omega) (.cells a.toArray s))⟩
theorem news2 (w : World) (a b : List Value) (s t : TypeId) : ∃ p q : Nat, p = w.heap.size ∧ q = w.heap.size + 1 ∧ Bx ((w.alloc (.cells a.toArray s)).alloc (.cells b.toArray t)) p a s ∧ Bx ((w.alloc (.cells a.toArray s)).alloc (.cells b.toArray t)) q b t ∧ Below w.heap.size w ((w.alloc (.cells a.toArray s)).alloc (.cells b.toArray t)) := by
 have b0 := Bx.new w a s
 have r0 := (b0.keep ((Below.refl _ _).alloc (Nat.le_refl _) (.cells b.toArray t)))
 have b1 := Bx.new (w.alloc (.cells a.toArray s)) b t
 have z1 : (w.alloc (.cells a.toArray s)).heap.size = w.heap.size + 1 := by simp
 rw [z1] at b1
 have r1 := b1
 exact ⟨_, _, rfl, rfl, r0, r1, (((Below.refl w.heap.size w).alloc (by simp <;> omega) (.cells a.toArray s)).alloc (by simp <;> omega) (.cells b.toArray t))⟩
theorem news3 (w : World) (a b c : List Value) (s t u : TypeId) : ∃ p q r : Nat, p = w.heap.size ∧ q = w.heap.size + 1 ∧ r = w.heap.size + 1 + 1 ∧ Bx (((w.alloc (.cells a.toArray s)).alloc (.cells b.toArray t)).alloc (.cells c.toArray u)) p a s ∧ Bx (((w.alloc (.cells a.toArray s)).alloc (.cells b.toArray t)).alloc (.cells c.toArray u)) q b t ∧ Bx (((w.alloc (.cells a.toArray s)).alloc (.cells b.toArray t)).alloc (.cells c.toArray u)) r c u ∧ Below w.heap.size w (((w.alloc (.cells a.toArray s)).alloc (.cells b.toArray t)).alloc (.cells c.toArray u)) := by
 have b0 := Bx.new w a s
 have r0 := ((b0.keep ((Below.refl _ _).alloc (Nat.le_refl _) (.cells b.toArray t))).keep ((Below.refl _ _).alloc (Nat.le_refl _) (.cells c.toArray u)))
 have b1 := Bx.new (w.alloc (.cells a.toArray s)) b t
 have z1 : (w.alloc (.cells a.toArray s)).heap.size = w.heap.size + 1 := by simp
 rw [z1] at b1
 have r1 := (b1.keep ((Below.refl _ _).alloc (Nat.le_refl _) (.cells c.toArray u)))
 have b2 := Bx.new ((w.alloc (.cells a.toArray s)).alloc (.cells b.toArray t)) c u
 have z2 : ((w.alloc (.cells a.toArray s)).alloc (.cells b.toArray t)).heap.size = w.heap.size + 1 + 1 := by simp
 rw [z2] at b2
 have r2 := b2
 exact ⟨_, _, _, rfl, rfl, rfl, r0, r1, r2, ((((Below.refl w.heap.size w).alloc (by simp <;> omega) (.cells a.toArray s)).alloc (by simp <;> omega) (.cells b.toArray t)).alloc (by simp <;> omega) (.cells c.toArray u))⟩
theorem bx_rows {W : World} {n k : Nat} {rows : List (List Value)} {ty : TypeId} {cs : List Value} (hx : Bx W n cs ty) (e : cs = rows.flatten) (hw : ∀ r ∈ rows, r.length = k) : RowsAt W n 0 k rows :=
 ⟨hx.lt, fun i r hr j v hv => by
  have := flat_get rows k hw i r hr j v hv
  rw [Nat.zero_add]
  exact hx.c _ _ (by rw [e]; exact this)⟩
theorem nm_fresh {E : List Nat} {B n m : Nat} (hE : ∀ k ∈ E, k < B) (h1 : m ≠ n) (h2 : B ≤ m) : m ∉ n :: E := fun hm => by
 rcases List.mem_cons.1 hm with e | e
 ·exact h1 e
 ·have := hE m e; omega
theorem bx_fp {E : List Nat} {W : World} {n k : Nat} {rows : List (List Value)} {ty : TypeId} {cs : List Value} (hx : Bx W n cs ty) (e : cs = rows.flatten) (hw : ∀ r ∈ rows, r.length = k) (hn : n ∉ E) : Fp (Sx E W) W (fun X => Sl X (some ⟨n, 0, none⟩) k rows) := fp_rows (bx_rows hx e hw) ⟨hn, hx.lt⟩
/-- Two cells stored in a block of two. -/
theorem put_two {W : World} {n : Nat} {x y : Value} {ty : TypeId} (h : Bx W n [x, y] ty) (a b : Value) : Bx ((W.setCell ⟨n, 0, none⟩ a).setCell ⟨n, 1, none⟩ b) n [a, b] ty := (h.put1 a).put2 b
theorem cell0 (X : World) : CellAt X [.int .i64 (-1), .int .i64 (-1), .int .i64 (-1), .int .i64 0, .slice none 0 0, .int .i64 0, .slice none 0 0, .slice none 0 0] ⟨-1, -1, -1, Fm.zeroV⟩ :=
 ⟨none, none, none, 0, 0, 0, rfl, fun h => absurd rfl h, fun h => absurd rfl h, fun h => absurd rfl h⟩
set_option maxRecDepth 100000 in
set_option maxHeartbeats 8000000 in
theorem newTree35 (E : List Nat) (w : World) (o : Option Addr) (cap : Nat) (b : Fm.BoxD) (h : Fp (Sx E w) w (fun X => Sl X o 2 (ivs b))) (hE : ∀ k ∈ E, k < w.heap.size) (h1 : 1 ≤ b.length) (h2 : b.length ≤ 10) (h3 : b.all Fm.validI = true) :
  Calls Tryz.prog 35 #[.slice o b.length cap] w (fun e W => ∃ v rows, e = .returned (.tuple #[v, .bool true]) ∧ FT E W v ⟨b, [⟨-1, -1, -1, Fm.zeroV⟩]⟩ rows ∧ Below w.heap.size w W) := by
 have hval := Fm.new_valid h1 h2 h3
 have HVT := Lib.hid hval
 have HF := Lib.hid h
 have hJ : b.length = (⟨b, [⟨-1, -1, -1, Fm.zeroV⟩]⟩ : Fm.TreeD).root.length := rfl
 clear h hval
 obtain ⟨J, hJ2⟩ : ∃ J, J = b.length := ⟨_, rfl⟩
 rw [← hJ2]
 have HJ := Lib.hid hJ2
 clear hJ hJ2 h1 h2
 go_enter Tryz.func35, Tryz.ntmps35
 go_wp2_with fail
 obtain ⟨n2, n3, n4, e2, e3, e4, hx2, hx3, hx4, hb⟩ := news3 w [.slice none 0 0, .slice none 0 0] [.int .i64 (-1), .int .i64 (-1), .int .i64 (-1), .int .i64 0, .slice none 0 0, .int .i64 0, .slice none 0 0, .slice none 0 0] [.slice o J cap, .slice (some ⟨w.heap.size + 1, 0, none⟩) 1 1] 36 85 36
 rw [← e4, ← e3, ← e2]
 rw [← e3] at hx2 hx3 hx4 hb
 generalize ((w.alloc (.cells [.slice none 0 0, .slice none 0 0].toArray 36)).alloc (.cells [.int .i64 (-1), .int .i64 (-1), .int .i64 (-1), .int .i64 0, .slice none 0 0, .int .i64 0, .slice none 0 0, .slice none 0 0].toArray 85)).alloc (.cells [.slice o J cap, .slice (some ⟨n3, 0, none⟩) 1 1].toArray 36) = W1 at hx2 hx3 hx4 hb ⊢
 have hs2 : w.heap.size ≤ n2 := by omega
 have hft : FT (n2 :: E) W1 (.agg #[.slice o J cap, .slice (some ⟨n3, 0, none⟩) 1 1]) ⟨b, [⟨-1, -1, -1, Fm.zeroV⟩]⟩ [[.int .i64 (-1), .int .i64 (-1), .int .i64 (-1), .int .i64 0, .slice none 0 0, .int .i64 0, .slice none 0 0, .slice none 0 0]] :=
  ⟨⟨o, cap, some ⟨n3, 0, none⟩, 1, by rw [HJ.out]; rfl, HF.out.fresh hb hs2, bx_fp hx3 rfl (fun r hr => by simp at hr; subst hr; rfl) (nm_fresh hE (by omega) (by omega))⟩, rfl, (fun r hr => by simp at hr; subst hr; rfl), fun k r u hr hu => by
   match k, hr, hu with
   | 0, hr, hu =>
    simp at hr hu
    subst hr hu
    exact fun X _ => cell0 X⟩
 have H32 := Lib.hid (validTree32 W1 _ _ hft.at HVT.out)
 have HFT := Lib.hid hft
 have hne : n2 ≠ n4 := by omega
 clear hft hx3 e2 e3 e4
 refine H32.out.mono ?_
 rintro e W2 ⟨rfl, hw⟩
 replace hx2 := hx2.keep hw
 replace hx4 := hx4.keep hw
 have hb2 := below_call hb hw
 replace HFT := Lib.hid (HFT.out.keep hw)
 have hsz := hb2.size
 have c0 := hx2.c 0 _ rfl
 have c1 := hx2.c 1 _ rfl
 have f0 := hx2.f 0
 have f1 := hx2.f 1
 have l2 := hx2.lt
 have d0 := hx4.c 0 _ rfl
 have d1 := hx4.c 1 _ rfl
 have l4 := hx4.lt
 have hA := hx2.put1 (.slice o J cap)
 have c1A := hA.c 1 _ rfl
 have f1A := hA.f 1
 have HXF := Lib.hid (put_two hx2 (.slice o J cap) (.slice (some ⟨n3, 0, none⟩) 1 1))
 have HBF := Lib.hid ((hb2.setCell (p := ⟨n2, 0, none⟩) hs2 (.slice o J cap)).setCell (p := ⟨n2, 1, none⟩) hs2 (.slice (some ⟨n3, 0, none⟩) 1 1))
 have HFF := Lib.hid ((HFT.out.put (n := n2) (i := 0) (u := .slice o J cap) (by simp)).put (n := n2) (i := 1) (u := .slice (some ⟨n3, 0, none⟩) 1 1) (by simp)).less
 go_wp2
 generalize (W2.setCell ⟨n2, 0, none⟩ (.slice o J cap)).setCell ⟨n2, 1, none⟩ (.slice (some ⟨n3, 0, none⟩) 1 1) = XF at HXF HBF HFF ⊢
 have c0F := HXF.out.c 0 _ rfl
 have c1F := HXF.out.c 1 _ rfl
 refine bodyPost_ret (v := .tuple #[.agg #[.slice o J cap, .slice (some ⟨n3, 0, none⟩) 1 1], .bool true]) (by simp [results, Tryz.results35, go_sem, c0F, c1F]) rfl ?_
 exact ⟨_, _, rfl, HFF.out, HBF.out⟩
end Go.Proofs.Ng
end

