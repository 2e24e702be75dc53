/-
  Texts put together: Ba Bt Bv Bw.
-/
import Derived.WalkKit
import Derived.IntWalk
import Derived.Lib.Hide
import Derived.BigQuiet
import Derived.Outline
import Derived.OwnWalk
import Derived.BigRegion
import Derived.StillTailTactics
import Derived.Deep.RegionHeld3
import Derived.Deep.DeepCutAuto
import Derived.Deep.CutBlock
import Derived.Deep.AppendLies
import Derived.Deep.RegionLaw
import Derived.Test.YtemchlakoalhcaaProg
import Derived.Test.YtemchlakoalhcaaZJointMoves10
import Derived.Lib.MinMax
set_option linter.unusedVariables false
section
/-
  Cells, rows, what stays; the maker's source.
-/
namespace Go.Proofs.Jn
open Go.RowKit

theorem ret_int {k : IntKind} {a b : Int} (h : a = b) : Ending.returned (.int k a) = .returned (.int k b) := by rw [h]
theorem ret_bool {a b : Bool} (h : a = b) : Ending.returned (.bool a) = .returned (.bool b) := by rw [h]
theorem tmod_neg (n k : Int) (h3 : 0 < k) (hn : n.tmod k < 0) : n.tmod k + k = n % k ∧ -k < n.tmod k := by
  have h1 : 0 ≤ n ∨ n < 0 := by omega
  rcases h1 with h1 | h1
  · rw [Int.tmod_eq_emod_of_nonneg h1] at hn
    have := Int.emod_nonneg n (show k ≠ 0 by omega)
    omega
  · have e : n.tmod k = -((-n) % k) := by
      have := Int.neg_tmod (-n) k
      rw [Int.neg_neg] at this
      rw [this, Int.tmod_eq_emod_of_nonneg (by omega)]
    have hlt := Int.emod_lt_of_pos (-n) h3
    have hge := Int.emod_nonneg (-n) (show k ≠ 0 by omega)
    rw [e]
    refine ⟨?_, by omega⟩
    have h5 := Int.mul_ediv_add_emod (-n) k
    have h6 : n = k * (-((-n) / k) - 1) + (k - (-n) % k) := by
      rw [Int.mul_sub, Int.mul_neg]; omega
    have h7 : n % k = (k - (-n) % k) % k := by
      rw [h6, Int.mul_add_emod_self_left]
      have : (k * (-((-n) / k) - 1) + (k - (-n) % k)) = n := h6.symm
      rw [this]
    have h8 := Int.emod_eq_of_lt (a := k - (-n) % k) (b := k) (by omega) (by omega)
    omega
theorem tmod_nn (n k : Int) (h3 : 0 < k) (hn : 0 ≤ n.tmod k) : n.tmod k = n % k := by
  have h1 : 0 ≤ n ∨ n < 0 := by omega
  rcases h1 with h1 | h1
  · exact Int.tmod_eq_emod_of_nonneg h1
  · have e : n.tmod k = -((-n) % k) := by
      have := Int.neg_tmod (-n) k
      rw [Int.neg_neg] at this
      rw [this, Int.tmod_eq_emod_of_nonneg (by omega)]
    have hge := Int.emod_nonneg (-n) (show k ≠ 0 by omega)
    have h0 : (-n) % k = 0 := by omega
    rw [e, h0]
    have : k ∣ n := (Int.dvd_neg).1 (Int.dvd_of_emod_eq_zero h0)
    rw [Int.emod_eq_zero_of_dvd this]; rfl
theorem below_call {w W w1 : World} (h : Below w.heap.size w W) (hb : Below W.heap.size W w1) : Below w.heap.size w w1 := h.trans (hb.mono h.size)
/-- A pair of cells. -/
structure Cells2 (W : World) (b : Nat) (x y : Value) : Prop where
  c0 : W.cell? ⟨b, 0, none⟩ = some x
  c1 : W.cell? ⟨b, 1, none⟩ = some y
  f0 : W.frozen? ⟨b, 0, none⟩ = false
  f1 : W.frozen? ⟨b, 1, none⟩ = false
  lt : b < W.heap.size
theorem Cells2.keep {W W' : World} {b : Nat} {x y : Value} (h : Cells2 W b x y) (hb : Below W.heap.size W W') : Cells2 W' b x y :=
  ⟨(hb.cell (p := ⟨b, 0, none⟩) h.lt).trans h.c0, (hb.cell (p := ⟨b, 1, none⟩) h.lt).trans h.c1, (hb.frozen (p := ⟨b, 0, none⟩) h.lt).trans h.f0, (hb.frozen (p := ⟨b, 1, none⟩) h.lt).trans h.f1, Nat.lt_of_lt_of_le h.lt hb.size⟩
theorem Cells2.new (W : World) (x y : Value) (t : TypeId) : Cells2 (W.alloc (.cells #[x, y] t)) W.heap.size x y :=
  ⟨by simp, by simp, by simp, by simp, by simp⟩
theorem Cells2.al {W : World} {b : Nat} {x y : Value} (h : Cells2 W b x y) (o : Obj) : Cells2 (W.alloc o) b x y := h.keep ((Below.refl _ _).alloc (Nat.le_refl _) _)
theorem Cells2.new' (W : World) (n : Nat) (x y : Value) (t : TypeId) (hn : n = W.heap.size) : Cells2 (W.alloc (.cells #[x, y] t)) n x y := by subst hn; exact Cells2.new W x y t
theorem Cells2.other {W : World} {b b' : Nat} {x y : Value} (h : Cells2 W b x y) (hne : b ≠ b') (o : Nat) (v : Value) : Cells2 (W.setCell ⟨b', o, none⟩ v) b x y := by
  have hb : ∀ k, k ≠ b' → (W.setCell ⟨b', o, none⟩ v).heap[k]? = W.heap[k]? := fun k hk => Below.heap_setCell W ⟨b', o, none⟩ v k hk
  have hB : Below b' W (W.setCell ⟨b', o, none⟩ v) := (Below.refl b' W).setCell (p := ⟨b', o, none⟩) (Nat.le_refl b') v
  refine ⟨?_, ?_, ?_, ?_, Nat.lt_of_lt_of_le h.lt hB.size⟩
  · rw [← h.c0]; simp [World.cell?, hb b hne]
  · rw [← h.c1]; simp [World.cell?, hb b hne]
  · rw [← h.f0]; simp [World.frozen?, hb b hne]
  · rw [← h.f1]; simp [World.frozen?, hb b hne]
theorem Cells2.put {W : World} {b : Nat} {x y : Value} (h : Cells2 W b x y) (x' y' : Value) : Cells2 ((W.setCell ⟨b, 0, none⟩ x').setCell ⟨b, 1, none⟩ y') b x' y' := by
  have h0 := h.c0; have h1 := h.c1; have h2 := h.f0; have h3 := h.f1
  refine ⟨by simp [go_sem, h0], by simp [go_sem, h1], by simp [go_sem, h2], by simp [go_sem, h3], by have := h.lt; simp [World.setCell]; exact this⟩
/-- The first cells of a block. -/
structure Row (W : World) (b : Nat) (l : List Value) : Prop where
  c : ∀ j v, l[j]? = some v → W.cell? ⟨b, j, none⟩ = some v
  lt : b < W.heap.size
theorem Row.keep {W W' : World} {b : Nat} {l : List Value} (h : Row W b l) (hb : Below W.heap.size W W') : Row W' b l :=
  ⟨fun j v hj => (hb.cell (p := ⟨b, j, none⟩) h.lt).trans (h.c j v hj), Nat.lt_of_lt_of_le h.lt hb.size⟩
theorem Row.other {W : World} {b b' : Nat} {l : List Value} (h : Row W b l) (hne : b ≠ b') (o : Nat) (v : Value) : Row (W.setCell ⟨b', o, none⟩ v) b l := by
  have hB : Below b' W (W.setCell ⟨b', o, none⟩ v) := (Below.refl b' W).setCell (p := ⟨b', o, none⟩) (Nat.le_refl b') v
  refine ⟨fun j u hj => ?_, Nat.lt_of_lt_of_le h.lt hB.size⟩
  rw [← h.c j u hj]; simp [World.cell?, Below.heap_setCell W ⟨b', o, none⟩ v b hne]
theorem Row.al {W : World} {b : Nat} {l : List Value} (h : Row W b l) (o : Obj) : Row (W.alloc o) b l := h.keep ((Below.refl _ _).alloc (Nat.le_refl _) _)
theorem Row.new (W : World) (l : List Value) (t : TypeId) : Row (W.alloc (.cells l.toArray t)) W.heap.size l := by
  refine ⟨fun j v hj => ?_, by simp⟩
  have e : (W.alloc (.cells l.toArray t)).heap[W.heap.size]? = some (.cells l.toArray t) := by
    show (W.heap.push (.cells l.toArray t))[W.heap.size]? = _
    exact Array.getElem?_push_size
  exact (cell_of_row _ _ _ _ _ _ e).trans (by simpa using hj)
theorem Cells2.put1 {W : World} {b : Nat} {x y : Value} (h : Cells2 W b x y) (y' : Value) : Cells2 (W.setCell ⟨b, 1, none⟩ y') b x y' := by
  have h0 := h.c0; have h1 := h.c1; have h2 := h.f0; have h3 := h.f1
  refine ⟨by simp [go_sem, h0], by simp [go_sem, h1], by simp [go_sem, h2], by simp [go_sem, h3], by have := h.lt; simp [World.setCell]; exact this⟩
/-- Rows of n cells, one behind another. -/
structure RowsAt (w : World) (b off n : Nat) (l : List (List Value)) : Prop where
  lt : b < w.heap.size
  c : ∀ i r, l[i]? = some r → ∀ k v, r[k]? = some v → w.cell? ⟨b, off + (i * n + k), none⟩ = some v
theorem RowsAt.keep {w w' : World} {b off n : Nat} {l : List (List Value)} (h : RowsAt w b off n l) (hb : Below w.heap.size w w') : RowsAt w' b off n l :=
  ⟨Nat.lt_of_lt_of_le h.lt hb.size, fun i r hi k v hv => (hb.cell (p := ⟨b, off + (i * n + k), none⟩) h.lt).trans (h.c i r hi k v hv)⟩
/-- A slice (its pointer) over these rows: nil only where there is none. -/
def Sl (w : World) (oa : Option Addr) (n : Nat) (rows : List (List Value)) : Prop := rows ≠ [] → ∃ b off, oa = some ⟨b, off, none⟩ ∧ RowsAt w b off n rows
theorem Sl.keep {w w' : World} {oa : Option Addr} {n : Nat} {rows : List (List Value)} (h : Sl w oa n rows) (hb : Below w.heap.size w w') : Sl w' oa n rows := by
  intro h0
  obtain ⟨b, off, e, h1⟩ := h h0
  exact ⟨b, off, e, h1.keep hb⟩
theorem below_drew (W : World) (n : Nat) : Below W.heap.size W (W.drewN n) := ⟨rfl, rfl, rfl, Nat.le_refl _, fun _ _ => rfl⟩
def pvals (ps : List Int) : List (List Value) := ps.map fun p => [.int .i64 p]
theorem pvals_get {ps : List Int} {k : Nat} {p : Int} (h : ps[k]? = some p) : (pvals ps)[k]? = some [.int .i64 p] := by simp [pvals, h]
theorem pvals_ne {ps : List Int} {k : Nat} (h : k < ps.length) : pvals ps ≠ [] := by
  intro h0; unfold pvals at h0; rw [List.map_eq_nil_iff] at h0; rw [h0] at h; simp at h
theorem own_keep {W W' : World} {base : Nat} {e : TypeId} {size n : Nat} {v : Value} {xs : List Value} (h : W.ownsRow base e size v n xs) (hb : Below W.heap.size W W') : W'.ownsRow base e size v n xs := by
  refine ⟨h.1, ?_⟩
  rcases h.2 with h0 | ⟨g, cap, cur, hv, hbg, hg, rest⟩
  · exact .inl h0
  · have hlt : g < W.heap.size := by
      rcases Nat.lt_or_ge g W.heap.size with h | h
      · exact h
      · rw [Array.getElem?_eq_none h] at hg; cases hg
    exact .inr ⟨g, cap, cur, hv, hbg, (hb.block g hlt).trans hg, rest⟩
theorem grown_below {W W' : World} {base : Nat} {e : TypeId} {size n : Nat} {v : Value} {xs : List Value} (h : W.ownsRow base e size v n xs) (hg : W.grownBy W' v.ownBlock) (hb : base ≤ W.heap.size) : Below base W W' := by
  refine ⟨hg.os, hg.tape, hg.output, hg.size, fun k hk => hg.block k (by omega) fun e => ?_⟩
  have := (World.ownsRow.lt h) k e.symm
  omega
theorem Row.low {W W' : World} {b base : Nat} {l : List Value} (h : Row W b l) (hlt : b < base) (hb : Below base W W') : Row W' b l := by
  refine ⟨fun j v hj => ?_, Nat.lt_of_lt_of_le h.lt hb.size⟩
  rw [← h.c j v hj]
  simp [World.cell?, hb.block b hlt]
/-- An owned row is kept where its block is. -/
theorem own_blk {W W' : World} {base : Nat} {e : TypeId} {size n : Nat} {v : Value} {xs : List Value} (h : W.ownsRow base e size v n xs) (hb : ∀ g, v.ownBlock = some g → g < W.heap.size → base ≤ g → W'.heap[g]? = W.heap[g]?) : W'.ownsRow base e size v n xs := by
  refine ⟨h.1, ?_⟩
  rcases h.2 with h0 | ⟨g, cap, cur, hv, hbg, hg, rest⟩
  · exact .inl h0
  · have hlt : g < W.heap.size := by
      rcases Nat.lt_or_ge g W.heap.size with h | h
      · exact h
      · rw [Array.getElem?_eq_none h] at hg; cases hg
    exact .inr ⟨g, cap, cur, hv, hbg, (hb g (by rw [hv]; rfl) hlt hbg).trans hg, rest⟩
theorem own_lt {W : World} {base : Nat} {e : TypeId} {size n : Nat} {v : Value} {xs : List Value} (h : W.ownsRow base e size v n xs) (g : Nat) (hg : v.ownBlock = some g) : g < W.heap.size ∧ base ≤ g := by
  rcases h.2 with ⟨rfl, _⟩ | ⟨g', cap, cur, rfl, hbg, hh, rest⟩
  · cases hg
  · simp [Value.ownBlock] at hg
    subst hg
    refine ⟨?_, hbg⟩
    rcases Nat.lt_or_ge g' W.heap.size with h | h
    · exact h
    · rw [Array.getElem?_eq_none h] at hh; cases hh
theorem own_base {W : World} {base base' : Nat} {e : TypeId} {size n : Nat} {v : Value} {xs : List Value} (h : W.ownsRow base e size v n xs) (hb : base' ≤ base) : W.ownsRow base' e size v n xs := by
  refine ⟨h.1, ?_⟩
  rcases h.2 with h0 | ⟨g, cap, cur, hv, hbg, rest⟩
  · exact .inl h0
  · exact .inr ⟨g, cap, cur, hv, by omega, rest⟩
theorem flat_get (rows : List (List Value)) (n : Nat) (hn : ∀ r ∈ rows, r.length = n) (i : Nat) (r : List Value) (h : rows[i]? = some r) (k : Nat) (v : Value) (hv : r[k]? = some v) : rows.flatten[i * n + k]? = some v := by
  induction rows generalizing i with
  | nil => simp at h
  | cons a t ih =>
    have ha : a.length = n := hn a (by simp)
    have hk : k < n := by
      have hr : r.length = n := hn r (List.mem_of_getElem? h)
      rcases Nat.lt_or_ge k r.length with h' | h'
      · omega
      · rw [List.getElem?_eq_none h'] at hv; cases hv
    cases i with
    | zero =>
      simp at h; subst h
      rw [List.flatten_cons, List.getElem?_append_left (by omega)]
      simpa using hv
    | succ i =>
      simp at h
      have := ih (fun r hr => hn r (by simp [hr])) i h
      rw [List.flatten_cons, List.getElem?_append_right (by rw [ha, Nat.succ_mul]; omega), ha]
      have e : (i + 1) * n + k - n = i * n + k := by rw [Nat.succ_mul]; omega
      rw [e]
      exact this
/-- An owned row reads as its rows. -/
theorem own_rows {W : World} {base : Nat} {e : TypeId} {n : Nat} {v : Value} {rows : List (List Value)} (hn : ∀ r ∈ rows, r.length = n) (h : W.ownsRow base e n v rows.length rows.flatten) : ∃ oa cap, v = .slice oa rows.length cap ∧ Sl W oa n rows := by
  rcases h.2 with ⟨rfl, h0⟩ | ⟨g, cap, cur, rfl, hbg, hg, hc, hm, hs, ht⟩
  · have : rows = [] := List.length_eq_zero_iff.1 h0
    subst this
    exact ⟨none, 0, rfl, fun h => absurd rfl h⟩
  · refine ⟨_, cap, rfl, fun _ => ⟨g, 0, rfl, ?_⟩⟩
    have hlt : g < W.heap.size := by
      rcases Nat.lt_or_ge g W.heap.size with h | h
      · exact h
      · rw [Array.getElem?_eq_none h] at hg; cases hg
    refine ⟨hlt, fun i r hi k u hu => ?_⟩
    have hq := flat_get rows n hn i r hi k u hu
    rw [← ht, List.getElem?_take] at hq
    split at hq
    · simp [World.cell?, hg]
      simpa using hq
    · cases hq
theorem grown_low {w W W' : World} {r : Option Nat} (h : w.grownBy W r) (hb : Below w.heap.size W W') : w.grownBy W' r :=
  ⟨hb.os.trans h.os, hb.tape.trans h.tape, hb.output.trans h.output, Nat.le_trans h.size hb.size, fun k hk hn => (hb.block k hk).trans (h.block k hk hn)⟩
/-- A block whose first cells are these, none frozen. -/
structure Blk (W : World) (b : Nat) (l : List Value) : Prop where
  c : ∀ i v, l[i]? = some v → W.cell? ⟨b, i, none⟩ = some v
  f : ∀ i, W.frozen? ⟨b, i, none⟩ = false
  lt : b < W.heap.size
theorem Blk.new (W : World) (l : List Value) (t : TypeId) : Blk (W.alloc (.cells l.toArray t)) W.heap.size l := by
  refine ⟨fun j v hj => ?_, fun i => ?_, by simp⟩
  · exact (Row.new W l t).c j v hj
  · simp
theorem Blk.keep {W W' : World} {b : Nat} {l : List Value} (h : Blk W b l) (hb : Below W.heap.size W W') : Blk W' b l := by
  have e := hb.block b h.lt
  refine ⟨fun i v hi => ?_, fun i => ?_, Nat.lt_of_lt_of_le h.lt hb.size⟩
  · rw [← h.c i v hi]; simp [World.cell?, e]
  · rw [← h.f i]; simp [World.frozen?, e]
theorem Blk.keepG {W W' : World} {b nS : Nat} {l : List Value} (h : Blk W b l) (hg : W.grownBy W' (some nS)) (hne : b ≠ nS) : Blk W' b l := by
  have e := hg.block b h.lt (fun e => hne (by injection e))
  refine ⟨fun i v hi => ?_, fun i => ?_, Nat.lt_of_lt_of_le h.lt hg.size⟩
  · rw [← h.c i v hi]; simp [World.cell?, e]
  · rw [← h.f i]; simp [World.frozen?, e]
theorem Blk.put {W : World} {b : Nat} {l : List Value} (h : Blk W b l) (i : Nat) (v : Value) : Blk (W.setCell ⟨b, i, none⟩ v) b (l.set i v) := by
  refine ⟨fun j u hj => ?_, fun j => ?_, by have := h.lt; simp [World.setCell]; exact this⟩
  · rw [List.getElem?_set] at hj
    by_cases e : i = j
    · subst e
      simp at hj
      obtain ⟨hl, rfl⟩ := hj
      have := h.c i _ (List.getElem?_eq_getElem hl)
      simp [go_sem, this]
    · rw [if_neg e] at hj
      have := h.c j u hj
      rw [← this]
      simp [go_sem]
  · have := h.f j
    simp [go_sem, this]
theorem Blk.low {W W' : World} {b base : Nat} {l : List Value} (h : Blk W b l) (hlt : b < base) (hb : Below base W W') : Blk W' b l := by
  have e := hb.block b hlt
  refine ⟨fun i v hi => ?_, fun i => ?_, Nat.lt_of_lt_of_le h.lt hb.size⟩
  · rw [← h.c i v hi]; simp [World.cell?, e]
  · rw [← h.f i]; simp [World.frozen?, e]
def pflat (ps : List Int) : List Value := ps.map fun p => .int .i64 p
theorem pvals_flat (ps : List Int) : (pvals ps).flatten = pflat ps := by
  induction ps with
  | nil => rfl
  | cons a t ih => simp only [pvals, pflat, List.map_cons, List.flatten_cons] at ih ⊢; rw [ih]; rfl
theorem pvals_len (ps : List Int) : (pvals ps).length = ps.length := by simp [pvals]
theorem own_fresh {W : World} {base size n cap m : Nat} {e : TypeId} {oa : Option Addr} {xs : List Value} (h : W.ownsRow base e size (.slice oa n cap) m xs) : ∀ a, oa = some a → base ≤ a.block := fun a ha => by
  rcases h.2 with ⟨h1, _⟩ | ⟨g, cap', cur, h1, h2, _⟩
  · injection h1 with h1
    rw [h1] at ha; cases ha
  · injection h1 with h1
    rw [h1] at ha; injection ha with ha; subst ha; exact h2
/-- The cells of a block that was just made. -/
theorem new_cells (W : World) (l : List Value) (t : TypeId) : ∀ (j : Nat) (u : Value), l[j]? = some u → (W.alloc (.cells l.toArray t)).cell? ((⟨W.heap.size, 0, none⟩ : Addr).add j) = some u := by
  intro j u hu
  have := (Row.new W l t).c j u hu
  rw [← this]
  congr 1
  unfold Addr.add
  split <;> simp_all
theorem own_cap {W : World} {base size n cap m : Nat} {e : TypeId} {oa : Option Addr} {xs : List Value} (h : W.ownsRow base e size (.slice oa n cap) m xs) : n ≤ cap ∧ (oa = none → cap = 0) := by
  rcases h.2 with ⟨h1, _⟩ | ⟨g, cap', cur, h1, _, _, h2, _⟩
  · injection h1 with h1 h3 h4
    exact ⟨by omega, fun _ => h4⟩
  · injection h1 with h1 h3 h4
    subst h1 h3 h4
    exact ⟨h2, fun e => by cases e⟩
set_option maxHeartbeats 400000 in
theorem round_any (n k : Int) (w : World) (h3 : 0 < k) (h4 : k ≤ 9223372036854775807) :
    Calls Try.prog 11 #[.int .i64 n, .int .i64 k] w fun e w' => e = .returned (.int .i64 (n % k)) ∧ w = w' := by
  have hk : (k == 0) = false := by simp; omega
  by_cases hn : n.tmod k < 0
  · have h5 := tmod_neg n k h3 hn
    have H5 := Lib.hid h5
    clear h5
    go_enter Try.func11, Try.ntmps11
    go_wp2
    go_ret
    have h6 := H5.out
    exact ⟨ret_int (by rw [IntWalk.wrap64_in _ (by omega)]; exact h6.1), rfl⟩
  · have h5 := tmod_nn n k h3 (by omega)
    have H5 := Lib.hid h5
    clear h5
    go_enter Try.func11, Try.ntmps11
    go_wp2
    go_ret
    exact ⟨ret_int H5.out, rfl⟩
/-- The source's box. -/
structure Src (W : World) (nS : Nat) (os : Option Addr) (cap : Nat) (xs : List Int) : Prop where
  box : ∃ k : Nat, k ≤ xs.length ∧ Cells2 W nS (.slice os xs.length cap) (.int .i64 k)
  ints : Sl W os 1 (pvals xs)
  off : xs ≠ [] → ∀ b o s, os = some ⟨b, o, s⟩ → b ≠ nS
  len : xs.length ≤ 9223372036854775807
theorem grown_trans {a b c : World} {r : Option Nat} (h : a.grownBy b r) (k : b.grownBy c r) : a.grownBy c r :=
  ⟨k.os.trans h.os, k.tape.trans h.tape, k.output.trans h.output, Nat.le_trans h.size k.size, fun i hi hn => (k.block i (Nat.lt_of_lt_of_le hi h.size) hn).trans (h.block i hi hn)⟩
theorem grown_of_below {a b : World} {r : Option Nat} (h : Below a.heap.size a b) : a.grownBy b r := ⟨h.os, h.tape, h.output, h.size, fun k hk _ => h.block k hk⟩
theorem grown_set (a : World) (n i : Nat) (v : Value) : a.grownBy (a.setCell ⟨n, i, none⟩ v) (some n) :=
  ⟨rfl, rfl, rfl, by simp [World.setCell], fun k _ hn => Below.heap_setCell a ⟨n, i, none⟩ v k (fun e => hn (by rw [e]))⟩
theorem RowsAt.keepG {w w' : World} {b off n nS : Nat} {l : List (List Value)} (h : RowsAt w b off n l) (hg : w.grownBy w' (some nS)) (hne : b ≠ nS) : RowsAt w' b off n l :=
  ⟨Nat.lt_of_lt_of_le h.lt hg.size, fun i r hi k v hv => by
    rw [← h.c i r hi k v hv]
    simp [World.cell?, hg.block b h.lt (fun e => hne (by injection e))]⟩
theorem Src.low {w W W' : World} {nS : Nat} {os : Option Addr} {cap : Nat} {xs : List Int} (h : Src W nS os cap xs) (i0 : Sl w os 1 (pvals xs)) (hn : nS < w.heap.size) (hb : Below w.heap.size W W') : Src W' nS os cap xs := by
  obtain ⟨⟨k, hk, hc⟩, hi, ho, hl⟩ := h
  refine ⟨⟨k, hk, ?_⟩, ?_, ho, hl⟩
  · have e := hb.block nS hn
    obtain ⟨c0, c1, f0, f1, lt⟩ := hc
    refine ⟨?_, ?_, ?_, ?_, Nat.lt_of_lt_of_le lt hb.size⟩
    · rw [← c0]; simp [World.cell?, e]
    · rw [← c1]; simp [World.cell?, e]
    · rw [← f0]; simp [World.frozen?, e]
    · rw [← f1]; simp [World.frozen?, e]
  · intro hne
    obtain ⟨b, off, e1, hr⟩ := hi hne
    obtain ⟨b', off', e1', hr'⟩ := i0 hne
    rw [e1] at e1'
    injection e1' with e1'
    injection e1' with e1' _ _
    have hlt := hr'.lt
    refine ⟨b, off, e1, ⟨Nat.lt_of_lt_of_le hr.lt hb.size, fun i' r hr1 k' v' hv' => ?_⟩⟩
    rw [← hr.c i' r hr1 k' v' hv']
    simp [World.cell?, hb.block b (by omega)]
theorem Src.keepB {W W' : World} {nS : Nat} {os : Option Addr} {cap : Nat} {xs : List Int} (h : Src W nS os cap xs) (hb : Below W.heap.size W W') : Src W' nS os cap xs := by
  obtain ⟨⟨k, hk, hc⟩, hi, ho, hl⟩ := h
  exact ⟨⟨k, hk, hc.keep hb⟩, hi.keep hb, ho, hl⟩
theorem src_lt {W : World} {nS : Nat} {os : Option Addr} {cap : Nat} {xs : List Int} (h : Src W nS os cap xs) : nS < W.heap.size := by
  obtain ⟨⟨k, hk, hc⟩, _⟩ := h
  exact hc.lt
set_option maxRecDepth 100000 in
set_option maxHeartbeats 2000000 in
theorem next_any (W : World) (nS : Nat) (os : Option Addr) (cap : Nat) (xs : List Int) (n : Int) (hS : Src W nS os cap xs) (h1 : 1 ≤ n) (h2 : n ≤ 1000000000000) :
    Calls Try.prog 26 #[.pointer (some ⟨nS, 0, none⟩), .int .i64 n] W (fun e W' => ∃ r : Int, 0 ≤ r ∧ r < n ∧ e = .returned (.int .i64 r) ∧ W.grownBy W' (some nS) ∧ Src W' nS os cap xs ∧ W'.heap.size = W.heap.size) := by
  obtain ⟨⟨k, hk, hc⟩, hints, hoff, hlen⟩ := hS
  have k0 := hc.c0; have k1 := hc.c1; have k2 := hc.f0; have k3 := hc.f1; have k4 := hc.lt
  by_cases hlt : k < xs.length
  · have hlt' : decide ((xs.length : Int) ≤ (k : Int)) = false := decide_eq_false (by omega)
    have hlt'' : decide (xs.length ≤ k) = false := decide_eq_false (by omega)
    obtain ⟨x, hx⟩ : ∃ x, xs[k]? = some x := ⟨_, List.getElem?_eq_getElem hlt⟩
    obtain ⟨b, off, rfl, hr⟩ := hints (pvals_ne hlt)
    have hbne := hoff (by intro h; subst h; simp at hlt) b off none rfl
    go_enter Try.func26, Try.ntmps26
    go_wp2_with fail
    go_quiet (fail)
    have hcV := hc.keep (below_drew W nq)
    have hrV := hr.keep (below_drew W nq)
    have hgV : W.grownBy (W.drewN nq) (some nS) := grown_of_below (below_drew W nq)
    have hzV : (W.drewN nq).heap.size = W.heap.size := rfl
    clear k0 k1 k2 k3 k4
    generalize W.drewN nq = V at hcV hrV hgV hzV ⊢
    have k0 := hcV.c0; have k1 := hcV.c1; have k2 := hcV.f0; have k3 := hcV.f1; have k4 := hcV.lt
    go_wp2_with fail
    have hcX : Cells2 (V.setCell ⟨nS, 1, none⟩ (.int .i64 ((k : Int) + 1))) nS (.slice (some ⟨b, off, none⟩) xs.length cap) (.int .i64 ((k : Int) + 1)) := hcV.put1 _
    have hgX := grown_trans hgV (grown_set V nS 1 (.int .i64 ((k : Int) + 1)))
    have hrX := hrV.keepG (grown_set V nS 1 (.int .i64 ((k : Int) + 1))) hbne
    have hzX : (V.setCell ⟨nS, 1, none⟩ (.int .i64 ((k : Int) + 1))).heap.size = W.heap.size := by rw [← hzV]; simp [World.setCell]
    clear k0 k1 k2 k3 k4 hcV hrV hgV
    generalize (V.setCell ⟨nS, 1, none⟩ (.int .i64 ((k : Int) + 1))) = X at hcX hgX hrX hzX ⊢
    have HZ := Lib.hid hzX
    clear hzX hzV
    have k0 := hcX.c0; have k1 := hcX.c1; have k2 := hcX.f0; have k3 := hcX.f1; have k4 := hcX.lt
    have x0 : X.cell? ⟨b, off + k, none⟩ = some (.int .i64 x) := by have := hrX.c k _ (pvals_get hx) 0 _ rfl; simpa using this
    have hw1 : IntKind.i64.wrap ((k : Int) + 1 - 1) = (k : Int) := by rw [IntWalk.i64_in _ (by omega)]; omega
    have hw2 : IntKind.i64.wrap (k : Int) = (k : Int) := IntWalk.i64_in _ (by omega)
    have HC : Hid (∀ w, Calls Try.prog 11 #[.int .i64 x, .int .i64 n] w fun e w' => e = .returned (.int .i64 (x % n)) ∧ w' = w) := Lib.hid (fun w => (round_any x n w (by omega) (by omega)).mono fun _ _ ⟨h, h'⟩ => ⟨h, h'.symm⟩)
    have hr0 : 0 ≤ x % n := Int.emod_nonneg _ (by omega)
    have hr1 : x % n < n := Int.emod_lt_of_pos _ (by omega)
    have HR0 := Lib.hid hr0
    have HR1 := Lib.hid hr1
    clear hr0 hr1
    go_quiet ((go_at_call 11; exact Calls.quiet_of_same (HC.out _)))
    have hcY := hcX.keep (below_drew X nq)
    have hrY := hrX.keep (below_drew X nq)
    have hgY := grown_trans hgX (grown_of_below (below_drew X nq))
    clear k0 k1 k2 k3 k4 x0 hw1 hw2
    have hzY : (X.drewN nq).heap.size = W.heap.size := HZ.out
    generalize X.drewN nq = Y at hcY hrY hgY hzY ⊢
    have HZY := Lib.hid hzY
    clear hzY
    go_wp2
    go_ret
    exact ⟨x % n, HR0.out, HR1.out, rfl, hgY, ⟨⟨k + 1, by omega, hcY⟩, fun _ => ⟨b, off, rfl, hrY⟩, hoff, hlen⟩, HZY.out⟩
  · have hlt' : decide ((xs.length : Int) ≤ (k : Int)) = true := decide_eq_true (by omega)
    have hlt'' : decide (xs.length ≤ k) = true := decide_eq_true (by omega)
    go_enter Try.func26, Try.ntmps26
    go_wp2_with fail
    go_quiet (fail)
    have hcV := hc.keep (below_drew W nq)
    have hiV := hints.keep (below_drew W nq)
    have hgV : W.grownBy (W.drewN nq) (some nS) := grown_of_below (below_drew W nq)
    clear k0 k1 k2 k3 k4
    have hzV : (W.drewN nq).heap.size = W.heap.size := rfl
    generalize W.drewN nq = V at hcV hiV hgV hzV ⊢
    have HZ := Lib.hid hzV
    clear hzV
    go_wp2
    go_ret
    exact ⟨0, by omega, by omega, rfl, hgV, ⟨⟨k, hk, hcV⟩, hiV, hoff, hlen⟩, HZ.out⟩
/-- A world whose last block is known was made by making it. -/
theorem un_alloc {X : World} {n : Nat} {o : Obj} (hs : X.heap.size = n + 1) (ho : X.heap[n]? = some o) : ∃ Y : World, X = Y.alloc o ∧ Y.heap.size = n ∧ ∀ k, k < n → Y.heap[k]? = X.heap[k]? := by
  refine ⟨{ X with heap := X.heap.pop }, ?_, by simp [hs], fun k hk => ?_⟩
  · have h1 : X.heap.pop.push o = X.heap := by
      apply Array.ext_getElem?
      intro i
      rw [Array.getElem?_push]
      by_cases hi : i = X.heap.pop.size
      · rw [if_pos hi, hi, show X.heap.pop.size = n by simp [hs], ho]
      · rw [if_neg hi, Array.getElem?_pop]
        simp at hi
        by_cases h2 : i < X.heap.size - 1
        · rw [if_pos h2]
        · rw [if_neg h2, Array.getElem?_eq_none (by omega)]
    cases X
    simp only [World.alloc] at *
    rw [h1]
  · rw [Array.getElem?_pop, if_pos (by omega)]
theorem from_any (os : Option Addr) (cap n : Nat) (w : World) : Calls Try.prog 25 #[.slice os n cap] w (fun e w' => e = .returned (.pointer (some ⟨w.heap.size, 0, none⟩)) ∧ w' = w.alloc (.cells #[.slice os n cap, .int .i64 0] 116)) := by
  go_enter Try.func25, Try.ntmps25
  go_wp2
  go_ret
  exact ⟨rfl, rfl⟩
end Go.Proofs.Jn
end

section
/-
  Teams as data; walks: Same, Clash.
-/
namespace Go.Proofs.Jn
open Go.RowKit

/-- What a call that answers a truth value answers. -/
def BoolP (b : Bool) (w : World) (e : Ending) (W' : World) : Prop := e = .returned (.bool b) ∧ Below w.heap.size w W'
theorem boolP_mk {a b : Bool} {w W' : World} (h : a = b) (hb : Below w.heap.size w W') : BoolP b w (.returned (.bool a)) W' := ⟨by rw [h], hb⟩

/-- A slice. -/
structure Sli where
  a : Option Addr
  n : Nat
  c : Nat
/-- An edge. -/
structure Ed where
  u : Nat
  v : Nat
  c : Int
  st : Int
  k0 : Int
  s1 : Sli
  k2 : Int
  k3 : Int
  s4 : Sli
  k5 : Int
  s6 : Sli
  s7 : Sli
def Ed.vals (e : Ed) : List Value := [.int .i64 (e.u : Nat), .int .i64 (e.v : Nat), .int .i64 e.c, .int .i64 e.st, .int .i64 e.k0, .slice e.s1.a e.s1.n e.s1.c, .int .i64 e.k2, .int .i64 e.k3, .slice e.s4.a e.s4.n e.s4.c, .int .i64 e.k5, .slice e.s6.a e.s6.n e.s6.c, .slice e.s7.a e.s7.n e.s7.c]
/-- A roadmap: how many points it has, where its lists lie, its edges. -/
structure Mp where
  n : Nat
  op : Option Addr
  cp : Nat
  oe : Option Addr
  ce : Nat
  es : List Ed
def Mp.vals (m : Mp) : List Value := [.slice m.op m.n m.cp, .slice m.oe m.es.length m.ce]
structure Mv where
  arm : Nat
  x : Nat
  y : Nat
deriving DecidableEq
def Mv.vals (m : Mv) : List Value := [.int .i64 (m.arm : Nat), .int .i64 (m.x : Nat), .int .i64 (m.y : Nat)]
structure Cf where
  a : Mv
  b : Mv
def Cf.vals (c : Cf) : List Value := c.a.vals ++ c.b.vals
structure Tm where
  ms : List Mp
  cs : List Cf
def Tm.val (T : Tm) (om oc : Option Addr) (cm cc : Nat) : Value := .agg #[.slice om T.ms.length cm, .slice oc T.cs.length cc]
structure TeamAt (W : World) (om oc : Option Addr) (T : Tm) : Prop where
  ms : Sl W om 2 (T.ms.map Mp.vals)
  cs : Sl W oc 6 (T.cs.map Cf.vals)
  es : ∀ m ∈ T.ms, Sl W m.oe 12 (m.es.map Ed.vals)
theorem TeamAt.keep {w w' : World} {om oc : Option Addr} {T : Tm} (h : TeamAt w om oc T) (hb : Below w.heap.size w w') : TeamAt w' om oc T :=
  ⟨h.ms.keep hb, h.cs.keep hb, fun m hm => (h.es m hm).keep hb⟩

/-- Boxes that a call makes first. -/
theorem boxes1 (w : World) (a : List Value) (s : TypeId) : Row (w.alloc (.cells a.toArray s)) w.heap.size a ∧ Below w.heap.size w (w.alloc (.cells a.toArray s)) :=
  ⟨Row.new w a s, (Below.refl _ _).alloc (Nat.le_refl _) _⟩
theorem boxes2 (w : World) (a b : List Value) (s t : TypeId) : Row ((w.alloc (.cells a.toArray s)).alloc (.cells b.toArray t)) w.heap.size a ∧ Row ((w.alloc (.cells a.toArray s)).alloc (.cells b.toArray t)) (w.heap.size + 1) b ∧
    Below w.heap.size w ((w.alloc (.cells a.toArray s)).alloc (.cells b.toArray t)) := by
  have e : (w.alloc (.cells a.toArray s)).heap.size = w.heap.size + 1 := by simp
  have r := Row.new (w.alloc (.cells a.toArray s)) b t
  rw [e] at r
  exact ⟨(Row.new w a s).al _, r, ((Below.refl _ _).alloc (Nat.le_refl _) _).alloc (by simp) _⟩
theorem boxes3 (w : World) (a b c : List Value) (s t u : TypeId) : Row (((w.alloc (.cells a.toArray s)).alloc (.cells b.toArray t)).alloc (.cells c.toArray u)) w.heap.size a ∧ Row (((w.alloc (.cells a.toArray s)).alloc (.cells b.toArray t)).alloc (.cells c.toArray u)) (w.heap.size + 1) b ∧
    Row (((w.alloc (.cells a.toArray s)).alloc (.cells b.toArray t)).alloc (.cells c.toArray u)) (w.heap.size + 1 + 1) c ∧ Below w.heap.size w (((w.alloc (.cells a.toArray s)).alloc (.cells b.toArray t)).alloc (.cells c.toArray u)) := by
  obtain ⟨h1, h2, h3⟩ := boxes2 w a b s t
  have e : ((w.alloc (.cells a.toArray s)).alloc (.cells b.toArray t)).heap.size = w.heap.size + 1 + 1 := by simp
  have r := Row.new ((w.alloc (.cells a.toArray s)).alloc (.cells b.toArray t)) c u
  rw [e] at r
  exact ⟨h1.al _, h2.al _, r, h3.alloc (by simp; omega) _⟩

def nvals (xs : List Nat) : List (List Value) := xs.map fun x => [.int .i64 (x : Nat)]
theorem nvals_get {ps : List Nat} {k : Nat} {p : Nat} (h : ps[k]? = some p) : (nvals ps)[k]? = some [.int .i64 (p : Nat)] := by simp [nvals, h]
theorem nvals_ne {ps : List Nat} {k : Nat} (h : k < ps.length) : nvals ps ≠ [] := by
  intro h0; unfold nvals at h0; rw [List.map_eq_nil_iff] at h0; rw [h0] at h; simp at h
theorem map_ne {α β : Type} {f : α → β} {xs : List α} {k : Nat} (h : k < xs.length) : xs.map f ≠ [] := by
  intro h0; rw [List.map_eq_nil_iff] at h0; rw [h0] at h; simp at h
theorem map_get {α β : Type} {f : α → β} {xs : List α} {k : Nat} {x : α} (h : xs[k]? = some x) : (xs.map f)[k]? = some (f x) := by simp [h]

set_option maxHeartbeats 4000000 in
theorem same_any (oa ob : Option Addr) (ca cb : Nat) (xs ys : List Nat) (w : World) (hl : ys.length = xs.length) (hr : xs.length ≤ 100) (hA : Sl w oa 1 (nvals xs)) (hB : Sl w ob 1 (nvals ys)) :
    Calls Try.prog 22 #[.slice oa xs.length ca, .slice ob xs.length cb] w (BoolP (decide (xs = ys)) w) := by
  have c0' : ((xs.length : Int) != (xs.length : Int)) = false := by simp
  go_enter Try.func22, Try.ntmps22
  go_wp2_with fail
  go_loopw [5] (fun i W => ∃ k : Nat, k ≤ xs.length ∧ i = .int .i64 k ∧ Below w.heap.size w W ∧ xs.take k = ys.take k) (fun i _ => xs.length - (intOf i).toNat)
  case atStart => exact ⟨0, by omega, rfl, Below.refl _ _, by simp⟩
  case round =>
    obtain ⟨k, hk, rfl, hW, hT⟩ := hrel
    have HW := Lib.hid hW
    have HT := Lib.hid hT
    clear hT
    by_cases hlt : k < xs.length
    · obtain ⟨x, hx⟩ : ∃ r, xs[k]? = some r := ⟨_, List.getElem?_eq_getElem hlt⟩
      obtain ⟨y, hy⟩ : ∃ r, ys[k]? = some r := ⟨_, List.getElem?_eq_getElem (by omega)⟩
      obtain ⟨a, offa, rfl, hAr⟩ := hA (nvals_ne hlt)
      obtain ⟨b, offb, rfl, hBr⟩ := hB (nvals_ne (k := k) (by omega))
      have x0 : wr.cell? ⟨a, offa + k, none⟩ = some (.int .i64 (x : Nat)) := by have := (hAr.keep hW).c k _ (nvals_get hx) 0 _ rfl; simpa using this
      have y0 : wr.cell? ⟨b, offb + k, none⟩ = some (.int .i64 (y : Nat)) := by have := (hBr.keep hW).c k _ (nvals_get hy) 0 _ rfl; simpa using this
      have HX := Lib.hid hx
      have HY := Lib.hid hy
      clear hA hB hW hAr hBr hx hy
      by_cases hxy : x = y
      · subst hxy
        have e0 : ((x : Int) != (x : Int)) = false := by simp
        go_wp2_with fail
        go_quiet (fail)
        have hB := below_call HW.out (below_drew wr nq)
        clear x0 y0
        generalize wr.drewN nq = V at hB ⊢
        have HB := Lib.hid hB
        clear hB HW
        go_wp2
        go_roundw
        case rel => exact ⟨k + 1, by omega, by simp, HB.out, by rw [List.take_add_one, List.take_add_one, HT.out, HX.out, HY.out]⟩
        case measure => simp [intOf]; omega
      · have e0 : ((x : Int) != (y : Int)) = true := by simp; omega
        go_wp2_with fail
        go_quiet (fail)
        have hB := below_call HW.out (below_drew wr nq)
        clear x0 y0
        generalize wr.drewN nq = V at hB ⊢
        have HB := Lib.hid hB
        clear hB HW
        go_wp2
        go_ret
        refine boolP_mk ?_ HB.out
        have : xs ≠ ys := fun h => by
          have h1 := HX.out; have h2 := HY.out
          rw [h, h2] at h1; injection h1 with h1; exact hxy h1.symm
        simp [this]
    · have hk' : k = xs.length := by omega
      go_wp2
      go_ret
      refine boolP_mk ?_ HW.out
      have h := HT.out
      rw [hk', List.take_length, List.take_of_length_le (by omega)] at h
      simp [h]

/-- Two moves clash. -/
def clashB (cs : List Cf) (a b : Mv) : Bool := cs.any fun c => (decide (c.a = a) && decide (c.b = b)) || (decide (c.a = b) && decide (c.b = a))
end Go.Proofs.Jn
end

section
/-
  Walks: Legal (the reference's).
-/
namespace Go.Proofs.Jn
open Go.RowKit

/-- There is an edge between two points. -/
def edgeB (es : List Ed) (x y : Nat) : Bool := es.any fun e => decide (e.u = min x y) && decide (e.v = max x y) && decide (e.st = 1)
theorem edgeB_step {es : List Ed} {k x y : Nat} {e : Ed} (h : edgeB (es.take k) x y = false) (he : es[k]? = some e) : edgeB (es.take (k + 1)) x y = (decide (e.u = min x y) && decide (e.v = max x y) && decide (e.st = 1)) := by
  unfold edgeB at h ⊢
  rw [List.take_add_one, he]
  simp only [Option.toList_some, List.any_append, h, Bool.false_or, List.any_cons, List.any_nil, Bool.or_false]
theorem edgeB_some {es : List Ed} {k x y : Nat} (h : edgeB (es.take k) x y = true) : edgeB es x y = true := by
  unfold edgeB at h ⊢
  rw [List.any_eq_true] at h ⊢
  obtain ⟨x, hx, hp⟩ := h
  exact ⟨x, List.mem_of_mem_take hx, hp⟩

theorem nat_beq (a b : Nat) : ((a : Int) == (b : Int)) = decide (a = b) := by
  by_cases h : a = b
  · subst h; simp
  · rw [decide_eq_false h]; simp; omega
theorem int_beq (a b : Int) : (a == b) = decide (a = b) := by
  by_cases h : a = b
  · subst h; simp
  · rw [decide_eq_false h]; exact beq_eq_false_iff_ne.2 h
theorem min_beq (u a b : Nat) : ((u : Int) == min (a : Int) (b : Int)) = decide (u = min a b) := by
  rw [show min (a : Int) (b : Int) = ((min a b : Nat) : Int) by omega]; exact nat_beq _ _
theorem max_beq (u a b : Nat) : ((u : Int) == max (a : Int) (b : Int)) = decide (u = max a b) := by
  rw [show max (a : Int) (b : Int) = ((max a b : Nat) : Int) by omega]; exact nat_beq _ _
set_option maxRecDepth 100000 in
set_option maxHeartbeats 4000000 in
theorem refLegal_any (om oc : Option Addr) (cm cc : Nat) (T : Tm) (m : Mp) (a : Mv) (w : World) (hl : T.ms.length ≤ 100) (hm : T.ms[a.arm]? = some m) (hx : a.x < m.n) (hy : a.y < m.n) (hn : m.n ≤ 1000) (he : m.es.length ≤ 1000) (hT : TeamAt w om oc T) :
    Calls Try.prog 23 #[T.val om oc cm cc, .agg #[.int .i64 (a.arm : Nat), .int .i64 (a.x : Nat), .int .i64 (a.y : Nat)]] w (BoolP (edgeB m.es a.x a.y || decide (a.x = a.y)) w) := by
  unfold Tm.val
  have hms := hT.ms
  have hes := hT.es m (List.mem_of_getElem? hm)
  have hlt : a.arm < T.ms.length := (List.getElem?_eq_some_iff.1 hm).1
  clear hT
  go_enter Try.func23, Try.ntmps23
  go_upto_region 1 with fail
  have hbx := boxes2 w [.slice om T.ms.length cm, .slice oc T.cs.length cc] [.int .i64 (a.arm : Nat), .int .i64 (a.x : Nat), .int .i64 (a.y : Nat)] 26 65
  have hms' := hms.keep hbx.2.2
  have hes' := hes.keep hbx.2.2
  clear hms hes
  generalize (w.alloc (.cells #[.slice om T.ms.length cm, .slice oc T.cs.length cc] 26)).alloc (.cells #[.int .i64 (a.arm : Nat), .int .i64 (a.x : Nat), .int .i64 (a.y : Nat)] 65) = W0 at hbx hms' hes' ⊢
  obtain ⟨r2, r3, hB0⟩ := hbx
  generalize w.heap.size + 1 = n3 at r3 ⊢
  obtain ⟨n2, hn2⟩ : ∃ n, n = w.heap.size := ⟨_, rfl⟩
  rw [← hn2] at r2 ⊢
  clear hn2
  have a0 : W0.cell? ⟨n2, 0, none⟩ = some (.slice om T.ms.length cm) := r2.c 0 _ rfl
  have a1 : W0.cell? ⟨n3, 0, none⟩ = some (.int .i64 (a.arm : Nat)) := r3.c 0 _ rfl
  have a2 : W0.cell? ⟨n3, 1, none⟩ = some (.int .i64 (a.x : Nat)) := r3.c 1 _ rfl
  have a3 : W0.cell? ⟨n3, 2, none⟩ = some (.int .i64 (a.y : Nat)) := r3.c 2 _ rfl
  have l2 := r2.lt
  have l3 := r3.lt
  obtain ⟨bm, offm, rfl, hMr⟩ := hms' (map_ne hlt)
  have x0 : W0.cell? ⟨bm, offm + a.arm * 2, none⟩ = some (.slice m.op m.n m.cp) := hMr.c _ _ (map_get hm) 0 _ rfl
  have x1 : W0.cell? ⟨bm, offm + a.arm * 2 + 1, none⟩ = some (.slice m.oe m.es.length m.ce) := hMr.c _ _ (map_get hm) 1 _ rfl
  clear hMr hms' hm
  go_upto_region 6 with fail
  have hb5 := boxes1 W0 [.slice m.op m.n m.cp, .slice m.oe m.es.length m.ce] 43
  have hes1 := hes'.keep hb5.2
  have r3' := r3.keep hb5.2
  clear hes' a0 a1 a2 a3 l2 l3 x0 x1 r2 r3
  generalize W0.alloc (.cells #[.slice m.op m.n m.cp, .slice m.oe m.es.length m.ce] 43) = W1 at hb5 hes1 r3' ⊢
  obtain ⟨r5, hB1⟩ := hb5
  generalize W0.heap.size = n5 at r5 ⊢
  have HB := Lib.hid (below_call hB0 hB1)
  clear hB0 hB1
  go_wp2_with fail
  go_loopw [6] (fun i W => ∃ k : Nat, k ≤ m.es.length ∧ i = .int .i64 k ∧ Below W1.heap.size W1 W ∧ edgeB (m.es.take k) a.x a.y = false) (fun i _ => m.es.length - (intOf i).toNat)
  case atStart => exact ⟨0, by omega, rfl, Below.refl _ _, rfl⟩
  case round =>
    obtain ⟨k, hk, rfl, hW, hF⟩ := hrel
    have R3 := r3'.keep hW
    have R5 := r5.keep hW
    have s1 : wr.cell? ⟨n5, 1, none⟩ = some (.slice m.oe m.es.length m.ce) := R5.c 1 _ rfl
    have l5 := R5.lt
    have a2 : wr.cell? ⟨n3, 1, none⟩ = some (.int .i64 (a.x : Nat)) := R3.c 1 _ rfl
    have a3 : wr.cell? ⟨n3, 2, none⟩ = some (.int .i64 (a.y : Nat)) := R3.c 2 _ rfl
    have l3 := R3.lt
    have HW := Lib.hid (below_call HB.out hW)
    have HF := Lib.hid hF
    clear hF
    by_cases hlt : k < m.es.length
    · obtain ⟨c, hc'⟩ : ∃ r, m.es[k]? = some r := ⟨_, List.getElem?_eq_getElem hlt⟩
      obtain ⟨bc, offc, hoe, hCr⟩ := hes1 (map_ne hlt)
      rw [hoe] at s1
      have hCr' := hCr.keep hW
      have x0 : wr.cell? ⟨bc, offc + k * 12, none⟩ = some (.int .i64 (c.u : Nat)) := hCr'.c k _ (map_get hc') 0 _ rfl
      have x1 : wr.cell? ⟨bc, offc + k * 12 + 1, none⟩ = some (.int .i64 (c.v : Nat)) := hCr'.c k _ (map_get hc') 1 _ rfl
      have x3 : wr.cell? ⟨bc, offc + k * 12 + 3, none⟩ = some (.int .i64 c.st) := hCr'.c k _ (map_get hc') 3 _ rfl
      have hst := edgeB_step HF.out hc'
      have HST := Lib.hid hst
      have hW' := hW
      clear hCr hCr' hes1 hW R3 R5 r3' r5 hc' hst
      have e1 : ((c.u : Int) == min (a.x : Int) (a.y : Int)) = decide (c.u = min a.x a.y) := min_beq _ _ _
      have e2 : ((c.v : Int) == max (a.x : Int) (a.y : Int)) = decide (c.v = max a.x a.y) := max_beq _ _ _
      have e3 : ((c.st : Int) == 1) = decide (c.st = 1) := int_beq _ _
      by_cases h1 : c.u = min a.x a.y
      · rw [decide_eq_true h1] at e1 HST
        by_cases h2 : c.v = max a.x a.y
        · rw [decide_eq_true h2] at e2 HST
          cases h3 : decide (c.st = 1) <;> rw [h3] at e3 HST <;> clear h1 h2 h3
          · go_wp2_with fail
            go_quiet (fail)
            have hB := below_call hW' (below_drew wr nq)
            clear x0 x1 x3 s1 a2 a3 l3 l5
            generalize wr.drewN nq = V at hB ⊢
            have HV := Lib.hid hB
            go_wp2
            go_roundw
            case rel => exact ⟨k + 1, by omega, by simp, HV.out, HST.out⟩
            case measure => simp [intOf]; omega
          · go_wp2_with fail
            go_quiet (fail)
            have hB := below_call HW.out (below_drew wr nq)
            clear x0 x1 x3 s1 a2 a3 l3 l5
            generalize wr.drewN nq = V at hB ⊢
            have HV := Lib.hid hB
            go_wp2
            go_ret
            refine boolP_mk ?_ HV.out
            rw [edgeB_some HST.out]
            rfl
        · rw [decide_eq_false h2] at e2 HST
          clear h1 h2
          go_wp2_with fail
          go_quiet (fail)
          have hB := below_call hW' (below_drew wr nq)
          clear x0 x1 x3 s1 a2 a3 l3 l5
          generalize wr.drewN nq = V at hB ⊢
          have HV := Lib.hid hB
          go_wp2
          go_roundw
          case rel => exact ⟨k + 1, by omega, by simp, HV.out, HST.out⟩
          case measure => simp [intOf]; omega
      · rw [decide_eq_false h1] at e1 HST
        clear h1
        go_wp2_with fail
        go_quiet (fail)
        have hB := below_call hW' (below_drew wr nq)
        clear x0 x1 x3 s1 a2 a3 l3 l5
        generalize wr.drewN nq = V at hB ⊢
        have HV := Lib.hid hB
        go_wp2
        go_roundw
        case rel => exact ⟨k + 1, by omega, by simp, HV.out, HST.out⟩
        case measure => simp [intOf]; omega
    · have e0 : ((a.x : Int) == (a.y : Int)) = decide (a.x = a.y) := nat_beq _ _
      go_wp2
      go_ret
      refine boolP_mk ?_ HW.out
      have h := HF.out
      rw [List.take_of_length_le (by omega)] at h
      rw [h]
      simp
end Go.Proofs.Jn
end

section
/-
  Walks: located, wellFormed.
-/
namespace Go.Proofs.Jn
open Go.RowKit

set_option maxRecDepth 100000 in
set_option maxHeartbeats 4000000 in
theorem located_any (om oc oa : Option Addr) (cm cc ca : Nat) (T : Tm) (xs : List Nat) (w : World) (hl : T.ms.length ≤ 100) (hx : xs.length = T.ms.length) (hv : ∀ (k x : Nat) (m : Mp), xs[k]? = some x → T.ms[k]? = some m → x < m.n) (hn : ∀ m ∈ T.ms, m.n ≤ 1000) (hT : TeamAt w om oc T) (hA : Sl w oa 1 (nvals xs)) :
    Calls Try.prog 30 #[T.val om oc cm cc, .slice oa xs.length ca] w (BoolP true w) := by
  unfold Tm.val
  have hms := hT.ms
  have d0 : ((xs.length : Int) != (T.ms.length : Int)) = false := by rw [hx]; simp
  clear hT
  go_enter Try.func30, Try.ntmps30
  go_upto_region 1 with fail
  have hbx := boxes1 w [.slice om T.ms.length cm, .slice oc T.cs.length cc] 26
  have hms' := hms.keep hbx.2
  have hA' := hA.keep hbx.2
  clear hms hA
  generalize w.alloc (.cells #[.slice om T.ms.length cm, .slice oc T.cs.length cc] 26) = W0 at hbx hms' hA' ⊢
  obtain ⟨r2, hB0⟩ := hbx
  obtain ⟨n2, hn2⟩ : ∃ n, n = w.heap.size := ⟨_, rfl⟩
  rw [← hn2] at r2 ⊢
  clear hn2
  have a0 : W0.cell? ⟨n2, 0, none⟩ = some (.slice om T.ms.length cm) := r2.c 0 _ rfl
  have l2 := r2.lt
  have HV := Lib.hid hv
  have HN := Lib.hid hn
  have HX := Lib.hid hx
  clear hv hn hx
  go_wp2_with fail
  go_loopw [5, 6, 15] (fun _ _ i W => ∃ k : Nat, k ≤ xs.length ∧ i = .int .i64 k ∧ Below W0.heap.size W0 W) (fun _ _ i _ => xs.length - (intOf i).toNat)
  case atStart => exact ⟨0, by omega, rfl, Below.refl _ _⟩
  case round =>
    obtain ⟨k, hk, rfl, hW⟩ := hrel
    have R2 := r2.keep hW
    have s0 : wr.cell? ⟨n2, 0, none⟩ = some (.slice om T.ms.length cm) := R2.c 0 _ rfl
    have k2 := R2.lt
    have HW := Lib.hid hW
    by_cases hlt : k < xs.length
    · obtain ⟨x, hx'⟩ : ∃ r, xs[k]? = some r := ⟨_, List.getElem?_eq_getElem hlt⟩
      obtain ⟨m, hm'⟩ : ∃ r, T.ms[k]? = some r := ⟨_, List.getElem?_eq_getElem (by have := HX.out; omega)⟩
      obtain ⟨b, off, rfl, hAr⟩ := hA' (nvals_ne hlt)
      obtain ⟨bm, offm, rfl, hMr⟩ := hms' (map_ne (k := k) (by have := HX.out; omega))
      have x0 : wr.cell? ⟨b, off + k, none⟩ = some (.int .i64 (x : Nat)) := by have := (hAr.keep hW).c k _ (nvals_get hx') 0 _ rfl; simpa using this
      have m0 : wr.cell? ⟨bm, offm + k * 2, none⟩ = some (.slice m.op m.n m.cp) := (hMr.keep hW).c k _ (map_get hm') 0 _ rfl
      have hxm : x < m.n := HV.out k x m hx' hm'
      have hkm : k < T.ms.length := by have := HX.out; omega
      clear hA' hms' hAr hMr hx' hm' hW R2 a0 l2 r2
      go_wp2
      go_roundw
      case rel => exact ⟨k + 1, by omega, by simp, HW.out⟩
      case measure => simp [intOf]; omega
    · go_wp2
      go_ret
      exact boolP_mk rfl (below_call hB0 HW.out)

/-- A roadmap whose edges ascend. -/
structure MapOk (m : Mp) : Prop where
  n1 : 1 ≤ m.n
  n2 : m.n ≤ 1000
  len : m.es.length ≤ 1000
  ed : ∀ e ∈ m.es, e.u < e.v ∧ e.v < m.n ∧ 0 ≤ e.c ∧ e.c ≤ 1099511627776
  asc : ∀ (k : Nat) (e f : Ed), m.es[k]? = some e → m.es[k + 1]? = some f → e.u < f.u ∨ (e.u = f.u ∧ e.v < f.v)

set_option maxRecDepth 100000 in
set_option maxHeartbeats 4000000 in
theorem wellFormed_any (m : Mp) (w : World) (hm : MapOk m) (hE : Sl w m.oe 12 (m.es.map Ed.vals)) :
    Calls Try.prog 53 #[.agg #[.slice m.op m.n m.cp, .slice m.oe m.es.length m.ce]] w (BoolP true w) := by
  obtain ⟨hn1, hn2, hlen, hed, hasc⟩ := hm
  go_enter Try.func53, Try.ntmps53
  go_upto_region 1 with fail
  have hbx := boxes1 w [.slice m.op m.n m.cp, .slice m.oe m.es.length m.ce] 43
  have hE' := hE.keep hbx.2
  clear hE
  generalize w.alloc (.cells #[.slice m.op m.n m.cp, .slice m.oe m.es.length m.ce] 43) = W0 at hbx hE' ⊢
  obtain ⟨r2, hB0⟩ := hbx
  obtain ⟨n2, hn2'⟩ : ∃ n, n = w.heap.size := ⟨_, rfl⟩
  rw [← hn2'] at r2 ⊢
  clear hn2'
  have a0 : W0.cell? ⟨n2, 0, none⟩ = some (.slice m.op m.n m.cp) := r2.c 0 _ rfl
  have a1 : W0.cell? ⟨n2, 1, none⟩ = some (.slice m.oe m.es.length m.ce) := r2.c 1 _ rfl
  have l2 := r2.lt
  have HED := Lib.hid hed
  have HA := Lib.hid hasc
  clear hed hasc
  go_wp2_with fail
  go_loopw [3, 4, 20] (fun p q i W => ∃ (k : Nat) (pu pv : Int), k ≤ m.es.length ∧ i = .int .i64 k ∧ p = .int .i64 pu ∧ q = .int .i64 pv ∧ Below W0.heap.size W0 W ∧ ∀ e, m.es[k]? = some e → pu < (e.u : Int) ∨ (pu = (e.u : Int) ∧ pv < (e.v : Int))) (fun _ _ i _ => m.es.length - (intOf i).toNat)
  case atStart => exact ⟨0, -1, -1, by omega, rfl, rfl, rfl, Below.refl _ _, fun e _ => .inl (by omega)⟩
  case round =>
    obtain ⟨k, pu, pv, hk, rfl, rfl, rfl, hW, hP⟩ := hrel
    have R2 := r2.keep hW
    have s0 : wr.cell? ⟨n2, 0, none⟩ = some (.slice m.op m.n m.cp) := R2.c 0 _ rfl
    have k2 := R2.lt
    have HW := Lib.hid hW
    by_cases hlt : k < m.es.length
    · obtain ⟨e, he⟩ : ∃ r, m.es[k]? = some r := ⟨_, List.getElem?_eq_getElem hlt⟩
      obtain ⟨b, off, hoe, hEr⟩ := hE' (map_ne hlt)
      have hEr' := hEr.keep hW
      have x0 : wr.cell? ⟨b, off + k * 12, none⟩ = some (.int .i64 (e.u : Nat)) := hEr'.c k _ (map_get he) 0 _ rfl
      have x1 : wr.cell? ⟨b, off + k * 12 + 1, none⟩ = some (.int .i64 (e.v : Nat)) := hEr'.c k _ (map_get he) 1 _ rfl
      have x2 : wr.cell? ⟨b, off + k * 12 + 2, none⟩ = some (.int .i64 e.c) := hEr'.c k _ (map_get he) 2 _ rfl
      have x3 : wr.cell? ⟨b, off + k * 12 + 3, none⟩ = some (.int .i64 e.st) := hEr'.c k _ (map_get he) 3 _ rfl
      have x4 : wr.cell? ⟨b, off + k * 12 + 4, none⟩ = some (.int .i64 e.k0) := hEr'.c k _ (map_get he) 4 _ rfl
      have x5 : wr.cell? ⟨b, off + k * 12 + 5, none⟩ = some (.slice e.s1.a e.s1.n e.s1.c) := hEr'.c k _ (map_get he) 5 _ rfl
      have x6 : wr.cell? ⟨b, off + k * 12 + 6, none⟩ = some (.int .i64 e.k2) := hEr'.c k _ (map_get he) 6 _ rfl
      have x7 : wr.cell? ⟨b, off + k * 12 + 7, none⟩ = some (.int .i64 e.k3) := hEr'.c k _ (map_get he) 7 _ rfl
      have x8 : wr.cell? ⟨b, off + k * 12 + 8, none⟩ = some (.slice e.s4.a e.s4.n e.s4.c) := hEr'.c k _ (map_get he) 8 _ rfl
      have x9 : wr.cell? ⟨b, off + k * 12 + 9, none⟩ = some (.int .i64 e.k5) := hEr'.c k _ (map_get he) 9 _ rfl
      have x10 : wr.cell? ⟨b, off + k * 12 + 10, none⟩ = some (.slice e.s6.a e.s6.n e.s6.c) := hEr'.c k _ (map_get he) 10 _ rfl
      have x11 : wr.cell? ⟨b, off + k * 12 + 11, none⟩ = some (.slice e.s7.a e.s7.n e.s7.c) := hEr'.c k _ (map_get he) 11 _ rfl
      obtain ⟨h1, h2, h3, h4⟩ := HED.out e (List.mem_of_getElem? he)
      have hp := hP e he
      have HE := Lib.hid he
      clear hP he hE' hEr hEr' R2 a0 a1 l2 r2
      rw [hoe]
      go_upto_region 9 with fail
      have hbx := boxes1 wr [.int .i64 (e.u : Nat), .int .i64 (e.v : Nat), .int .i64 e.c, .int .i64 e.st, .int .i64 e.k0, .slice e.s1.a e.s1.n e.s1.c, .int .i64 e.k2, .int .i64 e.k3, .slice e.s4.a e.s4.n e.s4.c, .int .i64 e.k5, .slice e.s6.a e.s6.n e.s6.c, .slice e.s7.a e.s7.n e.s7.c] 54
      have HB1 := Lib.hid (below_call hW hbx.2)
      clear x0 x1 x2 x3 x4 x5 x6 x7 x8 x9 x10 x11 s0 k2
      generalize wr.alloc (.cells #[.int .i64 (e.u : Nat), .int .i64 (e.v : Nat), .int .i64 e.c, .int .i64 e.st, .int .i64 e.k0, .slice e.s1.a e.s1.n e.s1.c, .int .i64 e.k2, .int .i64 e.k3, .slice e.s4.a e.s4.n e.s4.c, .int .i64 e.k5, .slice e.s6.a e.s6.n e.s6.c, .slice e.s7.a e.s7.n e.s7.c] 54) = V at hbx HB1 ⊢
      obtain ⟨rV, _⟩ := hbx
      clear hW
      generalize wr.heap.size = nV at rV ⊢
      have y0 : V.cell? ⟨nV, 0, none⟩ = some (.int .i64 (e.u : Nat)) := rV.c 0 _ rfl
      have y1 : V.cell? ⟨nV, 1, none⟩ = some (.int .i64 (e.v : Nat)) := rV.c 1 _ rfl
      have lV := rV.lt
      have g1 : decide ((e.u : Int) < pu) = false := decide_eq_false (by omega)
      have hrel' : ∀ f, m.es[k + 1]? = some f → (e.u : Int) < (f.u : Int) ∨ ((e.u : Int) = (f.u : Int) ∧ (e.v : Int) < (f.v : Int)) := fun f hf => by
        have := HA.out k e f HE.out hf
        omega
      have HR := Lib.hid hrel'
      clear hrel'
      by_cases hu : (e.u : Int) = pu
      · have g2 : ((e.u : Int) == pu) = true := by rw [hu]; simp
        have g3 : decide ((e.v : Int) ≤ pv) = false := decide_eq_false (by omega)
        have HU := Lib.hid hu
        clear hp hu
        go_upto_region 11 with fail
        go_quiet (fail)
        have HB2 := Lib.hid (below_call HB1.out (below_drew V nq))
        generalize V.drewN nq = V2 at HB2 ⊢
        go_wp2
        go_roundw
        case rel => exact ⟨k + 1, (e.u : Int), (e.v : Int), by omega, by simp, rfl, rfl, HB2.out, HR.out⟩
        case measure => simp [intOf]; omega
      · have g2 : ((e.u : Int) == pu) = false := beq_eq_false_iff_ne.2 hu
        clear hp hu
        go_upto_region 11 with fail
        go_quiet (fail)
        have HB2 := Lib.hid (below_call HB1.out (below_drew V nq))
        generalize V.drewN nq = V2 at HB2 ⊢
        go_wp2
        go_roundw
        case rel => exact ⟨k + 1, (e.u : Int), (e.v : Int), by omega, by simp, rfl, rfl, HB2.out, HR.out⟩
        case measure => simp [intOf]; omega
    · go_wp2
      go_ret
      exact boolP_mk rfl (below_call hB0 HW.out)
end Go.Proofs.Jn
end

