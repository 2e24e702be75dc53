/-
  Texts put together: Ca.
-/
import Derived.Test.YthcmkpcefiiiaaaGreatDoorZFormatKindsCard1
set_option linter.unusedVariables false
/-
  Rows that are being made, and what their elements point at.
-/
namespace Go.Proofs.Ng
open Go.RowKit

/-- All blocks from lo on are as they were. -/
structure AgI (lo : Nat) (W W' : World) : Prop where
  size : W.heap.size ≤ W'.heap.size
  block : ∀ k, lo ≤ k → k < W.heap.size → W'.heap[k]? = W.heap[k]?
theorem AgI.refl (lo : Nat) (W : World) : AgI lo W W := ⟨Nat.le_refl _, fun _ _ _ => rfl⟩
theorem AgI.trans {lo : Nat} {a b c : World} (h : AgI lo a b) (k : AgI lo b c) : AgI lo a c :=
  ⟨Nat.le_trans h.size k.size, fun i h1 h2 => (k.block i h1 (Nat.lt_of_lt_of_le h2 h.size)).trans (h.block i h1 h2)⟩
theorem AgI.of {lo : Nat} {W W' : World} (h : Below W.heap.size W W') : AgI lo W W' := ⟨h.size, fun k _ hk => h.block k hk⟩
theorem AgI.mono {lo lo' : Nat} {W W' : World} (h : AgI lo W W') (hl : lo ≤ lo') : AgI lo' W W' := ⟨h.size, fun k h1 h2 => h.block k (Nat.le_trans hl h1) h2⟩
theorem AgI.set {lo : Nat} (W : World) {n i : Nat} (v : Value) (hn : n < lo) : AgI lo W (W.setCell ⟨n, i, none⟩ v) :=
  ⟨by simp [World.setCell], fun k h1 _ => Below.heap_setCell W ⟨n, i, none⟩ v k (by show k ≠ n; omega)⟩

/-- Holds in all worlds with these blocks. -/
def Fp (S : Nat → Prop) (W : World) (Q : World → Prop) : Prop := ∀ W', (∀ k, S k → W'.heap[k]? = W.heap[k]?) → Q W'
theorem Fp.now {S : Nat → Prop} {W : World} {Q : World → Prop} (h : Fp S W Q) : Q W := h W fun _ _ => rfl
theorem Fp.mono {S S' : Nat → Prop} {W : World} {Q : World → Prop} (h : Fp S W Q) (hs : ∀ k, S k → S' k) : Fp S' W Q := fun W' h' => h W' fun k hk => h' k (hs k hk)
theorem Fp.keep {S : Nat → Prop} {W W1 : World} {Q : World → Prop} (h : Fp S W Q) (hs : ∀ k, S k → W1.heap[k]? = W.heap[k]?) : Fp S W1 Q := fun W' h' => h W' fun k hk => (h' k hk).trans (hs k hk)
/-- The blocks that were made since. -/
def Iv (lo hi : Nat) : Nat → Prop := fun k => lo ≤ k ∧ k < hi
/-- Made since lo. -/
abbrev New (lo : Nat) (W : World) (Q : World → Prop) : Prop := Fp (Iv lo W.heap.size) W Q
theorem New.keep {lo : Nat} {W W' : World} {Q : World → Prop} (h : New lo W Q) (ha : AgI lo W W') : New lo W' Q :=
  fun W2 h2 => h W2 fun k hk => (h2 k ⟨hk.1, Nat.lt_of_lt_of_le hk.2 ha.size⟩).trans (ha.block k hk.1 hk.2)

abbrev Dat (A : Type) := World → List Value → A → Prop
/-- Rows in memory, and their data. -/
structure Rws {A : Type} (D : Dat A) (n : Nat) (W : World) (oa : Option Addr) (l : List A) : Prop where
  ex : ∃ rows : List (List Value), rows.length = l.length ∧ Sl W oa n rows ∧ ∀ (k : Nat) (r : List Value) (x : A), rows[k]? = some r → l[k]? = some x → D W r x
/-- A row that is being made: its rows of cells, the blocks of what they point at. -/
structure RowV {A : Type} (D : Dat A) (ty : TypeId) (n lo : Nat) (W : World) (v : Value) (l : List A) (rows : List (List Value)) : Prop where
  len : rows.length = l.length
  wid : ∀ r ∈ rows, r.length = n
  own : W.ownsRow lo ty n v rows.length rows.flatten
  ex : ∃ S : Nat → Prop, (∀ k, S k → lo ≤ k ∧ k < W.heap.size ∧ v.ownBlock ≠ some k) ∧ ∀ (k : Nat) (r : List Value) (x : A), rows[k]? = some r → l[k]? = some x → Fp S W fun W' => D W' r x
structure RowO {A : Type} (D : Dat A) (ty : TypeId) (n lo : Nat) (W : World) (v : Value) (l : List A) : Prop where
  ex : ∃ rows, RowV D ty n lo W v l rows
section
variable {A : Type} {D : Dat A} {ty : TypeId} {n lo : Nat} {W W1 W' : World} {v v' : Value} {l : List A} {rows : List (List Value)}
theorem RowO.nil (D : Dat A) (ty : TypeId) (n lo : Nat) (W : World) : RowO D ty n lo W (.slice none 0 0) [] :=
  ⟨[], rfl, fun r h => (by cases h), World.ownsRow_nil _ _ _ _, fun _ => False, fun _ h => h.elim, fun k r x h => by simp at h⟩
theorem RowV.keep (h : RowV D ty n lo W v l rows) (ha : AgI lo W W') : RowV D ty n lo W' v l rows := by
  obtain ⟨S, h1, h2⟩ := h.ex
  exact ⟨h.len, h.wid, own_blk h.own fun g _ hl hb => ha.block g hb hl, S, fun k hk => ⟨(h1 k hk).1, Nat.lt_of_lt_of_le (h1 k hk).2.1 ha.size, (h1 k hk).2.2⟩,
    fun k r x hr hx => (h2 k r x hr hx).keep fun i hi => ha.block i (h1 i hi).1 (h1 i hi).2.1⟩
theorem RowO.keep (h : RowO D ty n lo W v l) (ha : AgI lo W W') : RowO D ty n lo W' v l := by
  obtain ⟨rows, hv⟩ := h.ex
  exact ⟨rows, hv.keep ha⟩
theorem RowV.blk (h : RowV D ty n lo W v l rows) (g : Nat) (hg : v.ownBlock = some g) : g < W.heap.size ∧ lo ≤ g := own_lt h.own g hg
/-- One element more: what it points at was made since W1, when the row stood already. -/
theorem RowV.app {W2 W3 : World} {r : List Value} {x : A} (h : RowV D ty n lo W1 v l rows) (ha : AgI lo W1 W2) (hD : New W1.heap.size W2 fun W => D W r x) (hr : r.length = n)
    (h23 : Below W2.heap.size W2 W3) (ho : W'.ownsRow lo ty n v' (rows.length + 1) (rows.flatten ++ r)) (hg : W3.grownBy W' v.ownBlock) (hv : v'.ownBlock = v.ownBlock ∨ v'.ownBlock = some W3.heap.size) (hlo : lo ≤ W1.heap.size) :
    RowO D ty n lo W' v' (l ++ [x]) := by
  obtain ⟨S, h1, h2⟩ := h.ex
  have sz1 := ha.size
  have sz2 := h23.size
  have sz3 := hg.size
  have ne : ∀ k, k < W2.heap.size → v.ownBlock ≠ some k → W'.heap[k]? = W2.heap[k]? := fun k hk hn =>
    (hg.block k (Nat.lt_of_lt_of_le hk sz2) (fun e => hn e.symm)).trans (h23.block k hk)
  have hnv : ∀ k, Iv W1.heap.size W2.heap.size k → v.ownBlock ≠ some k := fun k hk e => by
    have := (h.blk k e).1
    have := hk.1
    omega
  have hnv' : ∀ k, k < W2.heap.size → v.ownBlock ≠ some k → v'.ownBlock ≠ some k := fun k hk hn => by
    rcases hv with e | e
    · rw [e]; exact hn
    · rw [e]; intro e2; injection e2 with e2; omega
  refine ⟨rows ++ [r], by simp [h.len], fun q hq => ?_, by simpa using ho, fun k => S k ∨ Iv W1.heap.size W2.heap.size k, fun k hk => ?_, fun k q y hq hy => ?_⟩
  · rw [List.mem_append, List.mem_singleton] at hq
    rcases hq with hq | rfl
    · exact h.wid q hq
    · exact hr
  · rcases hk with hk | hk
    · obtain ⟨a1, a2, a3⟩ := h1 k hk
      exact ⟨a1, by omega, hnv' k (by omega) a3⟩
    · have := hk.1; have := hk.2
      exact ⟨by omega, by omega, hnv' k hk.2 (hnv k hk)⟩
  · rcases Nat.lt_or_ge k rows.length with hlt | hge
    · rw [List.getElem?_append_left hlt] at hq
      rw [List.getElem?_append_left (by rw [← h.len]; exact hlt)] at hy
      exact ((h2 k q y hq hy).keep fun i hi => by
        obtain ⟨a1, a2, a3⟩ := h1 i hi
        rw [ne i (by omega) a3, ha.block i a1 a2]).mono fun i hi => .inl hi
    · have hk : k = rows.length := by
        rcases Nat.eq_or_lt_of_le hge with e | e
        · exact e.symm
        · rw [List.getElem?_append_right hge, List.getElem?_eq_none (by simp; omega)] at hq
          cases hq
      subst hk
      rw [List.getElem?_append_right (Nat.le_refl _), Nat.sub_self] at hq
      rw [List.getElem?_append_right (by rw [h.len]; exact Nat.le_refl _), h.len, Nat.sub_self] at hy
      simp at hq hy
      subst hq hy
      exact (Fp.keep (S := Iv W1.heap.size W2.heap.size) hD fun i hi => ne i hi.2 (hnv i hi)).mono fun i hi => .inr hi
/-- A row that is made. -/
theorem RowO.done (h : RowO D ty n lo W v l) : ∃ oa cap, v = .slice oa l.length cap ∧ New lo W (fun W' => Rws D n W' oa l) ∧ (l ≠ [] → ∃ a, oa = some a) ∧ l.length ≤ cap := by
  obtain ⟨rows, hV⟩ := h.ex
  obtain ⟨oa, cap, rfl, hs⟩ := own_rows hV.wid hV.own
  have hcap := own_cap hV.own
  rw [hV.len] at hcap
  have hl := hV.len
  refine ⟨oa, cap, by rw [hl], fun W' hW' => ?_, fun hne => ?_, hcap.1⟩
  · obtain ⟨S, h1, h2⟩ := hV.ex
    refine ⟨rows, hV.len, ?_, fun k r x hr hx => h2 k r x hr hx W' fun i hi => hW' i ⟨(h1 i hi).1, (h1 i hi).2.1⟩⟩
    have hO : W'.ownsRow lo ty n (.slice oa rows.length cap) rows.length rows.flatten := own_blk hV.own fun g _ hl hb => hW' g ⟨hb, hl⟩
    obtain ⟨oa', cap', e, hs'⟩ := own_rows hV.wid hO
    injection e with e _ _
    rw [e]
    exact hs'
  · cases oa with
    | some a => exact ⟨a, rfl⟩
    | none =>
      exfalso
      have h3 := hcap.2 rfl
      rw [h3] at hcap
      exact hne (List.length_eq_zero_iff.1 (Nat.le_zero.1 hcap.1))
end
end Go.Proofs.Ng
