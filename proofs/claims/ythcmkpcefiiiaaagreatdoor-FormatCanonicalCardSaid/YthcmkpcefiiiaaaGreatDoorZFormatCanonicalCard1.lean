/-
  Texts put together: Ba Bd Bh La Aa.
-/
import Derived.WalkKit
import Derived.IntWalk
import Derived.Lib.Hide
import Derived.BigQuiet
import Derived.Outline
import Derived.OwnWalk
import Derived.BigRegion
import Derived.StillTailTactics
import Derived.Deep.RegionHeld3
import Derived.Deep.DeepCutAuto
import Derived.Deep.CutBlock
import Derived.Deep.AppendLies
import Derived.Deep.RegionLaw
import Derived.Test.YthcmkpcefiiiaaaGreatDoorProg
import Derived.Sort.Grow
import Derived.Shelf.Strings.Prefix
import Derived.Shelf.Strings.Shaped
import Derived.Shelf.Strings.SplitShaped
import Derived.Shelf.Strconv.Itoa4
import Derived.Shelf.Strconv.AppendIntPublic10
import Derived.Shelf.Strconv.ParseIntPublic10
import Derived.WalkLawsBesides
set_option linter.unusedVariables false
section
/-
 Cells, rows, what stays; the maker's source.
-/
namespace Go.Proofs.Ng
open Go.RowKit
theorem ret_int {k : IntKind} {a b : Int} (h : a = b) : Ending.returned (.int k a) = .returned (.int k b) := by rw [h]
theorem ret_bool {a b : Bool} (h : a = b) : Ending.returned (.bool a) = .returned (.bool b) := by rw [h]
theorem tmod_neg (n k : Int) (h3 : 0 < k) (hn : n.tmod k < 0) : n.tmod k + k = n % k ∧ -k < n.tmod k := by
 have h1 : 0 ≤ n ∨ n < 0 := by omega
 rcases h1 with h1 | h1
 ·rw [Int.tmod_eq_emod_of_nonneg h1] at hn
  have := Int.emod_nonneg n (show k ≠ 0 by omega)
  omega
 ·have e : n.tmod k = -((-n) % k) := by
   have := Int.neg_tmod (-n) k
   rw [Int.neg_neg] at this
   rw [this, Int.tmod_eq_emod_of_nonneg (by omega)]
  have hlt := Int.emod_lt_of_pos (-n) h3
  have hge := Int.emod_nonneg (-n) (show k ≠ 0 by omega)
  rw [e]
  refine ⟨?_, by omega⟩
  have h5 := Int.mul_ediv_add_emod (-n) k
  have h6 : n = k * (-((-n) / k) - 1) + (k - (-n) % k) := by
   rw [Int.mul_sub, Int.mul_neg]; omega
  have h7 : n % k = (k - (-n) % k) % k := by
   rw [h6, Int.mul_add_emod_self_left]
   have : (k * (-((-n) / k) - 1) + (k - (-n) % k)) = n := h6.symm
   rw [this]
  have h8 := Int.emod_eq_of_lt (a := k - (-n) % k) (b := k) (by omega) (by omega)
  omega
theorem tmod_nn (n k : Int) (h3 : 0 < k) (hn : 0 ≤ n.tmod k) : n.tmod k = n % k := by
 have h1 : 0 ≤ n ∨ n < 0 := by omega
 rcases h1 with h1 | h1
 ·exact Int.tmod_eq_emod_of_nonneg h1
 ·have e : n.tmod k = -((-n) % k) := by
   have := Int.neg_tmod (-n) k
   rw [Int.neg_neg] at this
   rw [this, Int.tmod_eq_emod_of_nonneg (by omega)]
  have hge := Int.emod_nonneg (-n) (show k ≠ 0 by omega)
  have h0 : (-n) % k = 0 := by omega
  rw [e, h0]
  have : k ∣ n := (Int.dvd_neg).1 (Int.dvd_of_emod_eq_zero h0)
  rw [Int.emod_eq_zero_of_dvd this]; rfl
theorem below_call {w W w1 : World} (h : Below w.heap.size w W) (hb : Below W.heap.size W w1) : Below w.heap.size w w1 := h.trans (hb.mono h.size)
/-- A pair of cells. -/
structure Cells2 (W : World) (b : Nat) (x y : Value) : Prop where
 c0 : W.cell? ⟨b, 0, none⟩ = some x
 c1 : W.cell? ⟨b, 1, none⟩ = some y
 f0 : W.frozen? ⟨b, 0, none⟩ = false
 f1 : W.frozen? ⟨b, 1, none⟩ = false
 lt : b < W.heap.size
theorem Cells2.keep {W W' : World} {b : Nat} {x y : Value} (h : Cells2 W b x y) (hb : Below W.heap.size W W') : Cells2 W' b x y :=
 ⟨(hb.cell (p := ⟨b, 0, none⟩) h.lt).trans h.c0, (hb.cell (p := ⟨b, 1, none⟩) h.lt).trans h.c1, (hb.frozen (p := ⟨b, 0, none⟩) h.lt).trans h.f0, (hb.frozen (p := ⟨b, 1, none⟩) h.lt).trans h.f1, Nat.lt_of_lt_of_le h.lt hb.size⟩
theorem Cells2.new (W : World) (x y : Value) (t : TypeId) : Cells2 (W.alloc (.cells #[x, y] t)) W.heap.size x y :=
 ⟨by simp, by simp, by simp, by simp, by simp⟩
theorem Cells2.al {W : World} {b : Nat} {x y : Value} (h : Cells2 W b x y) (o : Obj) : Cells2 (W.alloc o) b x y := h.keep ((Below.refl _ _).alloc (Nat.le_refl _) _)
theorem Cells2.other {W : World} {b b' : Nat} {x y : Value} (h : Cells2 W b x y) (hne : b ≠ b') (o : Nat) (v : Value) : Cells2 (W.setCell ⟨b', o, none⟩ v) b x y := by
 have hb : ∀ k, k ≠ b' → (W.setCell ⟨b', o, none⟩ v).heap[k]? = W.heap[k]? := fun k hk => Below.heap_setCell W ⟨b', o, none⟩ v k hk
 have hB : Below b' W (W.setCell ⟨b', o, none⟩ v) := (Below.refl b' W).setCell (p := ⟨b', o, none⟩) (Nat.le_refl b') v
 refine ⟨?_, ?_, ?_, ?_, Nat.lt_of_lt_of_le h.lt hB.size⟩
 ·rw [← h.c0]; simp [World.cell?, hb b hne]
 ·rw [← h.c1]; simp [World.cell?, hb b hne]
 ·rw [← h.f0]; simp [World.frozen?, hb b hne]
 ·rw [← h.f1]; simp [World.frozen?, hb b hne]
theorem Cells2.put {W : World} {b : Nat} {x y : Value} (h : Cells2 W b x y) (x' y' : Value) : Cells2 ((W.setCell ⟨b, 0, none⟩ x').setCell ⟨b, 1, none⟩ y') b x' y' := by
 have h0 := h.c0; have h1 := h.c1; have h2 := h.f0; have h3 := h.f1
 refine ⟨by simp [go_sem, h0], by simp [go_sem, h1], by simp [go_sem, h2], by simp [go_sem, h3], by have := h.lt; simp [World.setCell]; exact this⟩
/-- The first cells of a block. -/
structure Row (W : World) (b : Nat) (l : List Value) : Prop where
 c : ∀ j v, l[j]? = some v → W.cell? ⟨b, j, none⟩ = some v
 lt : b < W.heap.size
theorem Row.keep {W W' : World} {b : Nat} {l : List Value} (h : Row W b l) (hb : Below W.heap.size W W') : Row W' b l :=
 ⟨fun j v hj => (hb.cell (p := ⟨b, j, none⟩) h.lt).trans (h.c j v hj), Nat.lt_of_lt_of_le h.lt hb.size⟩
theorem Row.other {W : World} {b b' : Nat} {l : List Value} (h : Row W b l) (hne : b ≠ b') (o : Nat) (v : Value) : Row (W.setCell ⟨b', o, none⟩ v) b l := by
 have hB : Below b' W (W.setCell ⟨b', o, none⟩ v) := (Below.refl b' W).setCell (p := ⟨b', o, none⟩) (Nat.le_refl b') v
 refine ⟨fun j u hj => ?_, Nat.lt_of_lt_of_le h.lt hB.size⟩
 rw [← h.c j u hj]; simp [World.cell?, Below.heap_setCell W ⟨b', o, none⟩ v b hne]
theorem Row.al {W : World} {b : Nat} {l : List Value} (h : Row W b l) (o : Obj) : Row (W.alloc o) b l := h.keep ((Below.refl _ _).alloc (Nat.le_refl _) _)
theorem Row.new (W : World) (l : List Value) (t : TypeId) : Row (W.alloc (.cells l.toArray t)) W.heap.size l := by
 refine ⟨fun j v hj => ?_, by simp⟩
 have e : (W.alloc (.cells l.toArray t)).heap[W.heap.size]? = some (.cells l.toArray t) := by
  show (W.heap.push (.cells l.toArray t))[W.heap.size]? = _
  exact Array.getElem?_push_size
 exact (cell_of_row _ _ _ _ _ _ e).trans (by simpa using hj)
theorem Cells2.put1 {W : World} {b : Nat} {x y : Value} (h : Cells2 W b x y) (y' : Value) : Cells2 (W.setCell ⟨b, 1, none⟩ y') b x y' := by
 have h0 := h.c0; have h1 := h.c1; have h2 := h.f0; have h3 := h.f1
 refine ⟨by simp [go_sem, h0], by simp [go_sem, h1], by simp [go_sem, h2], by simp [go_sem, h3], by have := h.lt; simp [World.setCell]; exact this⟩
/-- Rows of n cells, one behind another. -/
structure RowsAt (w : World) (b off n : Nat) (l : List (List Value)) : Prop where
 lt : b < w.heap.size
 c : ∀ i r, l[i]? = some r → ∀ k v, r[k]? = some v → w.cell? ⟨b, off + (i * n + k), none⟩ = some v
theorem RowsAt.keep {w w' : World} {b off n : Nat} {l : List (List Value)} (h : RowsAt w b off n l) (hb : Below w.heap.size w w') : RowsAt w' b off n l :=
 ⟨Nat.lt_of_lt_of_le h.lt hb.size, fun i r hi k v hv => (hb.cell (p := ⟨b, off + (i * n + k), none⟩) h.lt).trans (h.c i r hi k v hv)⟩
/-- A slice (its pointer) over these rows: nil only where there is none. -/
def Sl (w : World) (oa : Option Addr) (n : Nat) (rows : List (List Value)) : Prop := rows ≠ [] → ∃ b off, oa = some ⟨b, off, none⟩ ∧ RowsAt w b off n rows
theorem Sl.keep {w w' : World} {oa : Option Addr} {n : Nat} {rows : List (List Value)} (h : Sl w oa n rows) (hb : Below w.heap.size w w') : Sl w' oa n rows := by
 intro h0
 obtain ⟨b, off, e, h1⟩ := h h0
 exact ⟨b, off, e, h1.keep hb⟩
theorem below_drew (W : World) (n : Nat) : Below W.heap.size W (W.drewN n) := ⟨rfl, rfl, rfl, Nat.le_refl _, fun _ _ => rfl⟩
def pvals (ps : List Int) : List (List Value) := ps.map fun p => [.int .i64 p]
theorem pvals_get {ps : List Int} {k : Nat} {p : Int} (h : ps[k]? = some p) : (pvals ps)[k]? = some [.int .i64 p] := by simp [pvals, h]
theorem pvals_ne {ps : List Int} {k : Nat} (h : k < ps.length) : pvals ps ≠ [] := by
 intro h0; unfold pvals at h0; rw [List.map_eq_nil_iff] at h0; rw [h0] at h; simp at h
theorem own_keep {W W' : World} {base : Nat} {e : TypeId} {size n : Nat} {v : Value} {xs : List Value} (h : W.ownsRow base e size v n xs) (hb : Below W.heap.size W W') : W'.ownsRow base e size v n xs := by
 refine ⟨h.1, ?_⟩
 rcases h.2 with h0 | ⟨g, cap, cur, hv, hbg, hg, rest⟩
 ·exact .inl h0
 ·have hlt : g < W.heap.size := by
   rcases Nat.lt_or_ge g W.heap.size with h | h
   ·exact h
   ·rw [Array.getElem?_eq_none h] at hg; cases hg
  exact .inr ⟨g, cap, cur, hv, hbg, (hb.block g hlt).trans hg, rest⟩
theorem grown_below {W W' : World} {base : Nat} {e : TypeId} {size n : Nat} {v : Value} {xs : List Value} (h : W.ownsRow base e size v n xs) (hg : W.grownBy W' v.ownBlock) (hb : base ≤ W.heap.size) : Below base W W' := by
 refine ⟨hg.os, hg.tape, hg.output, hg.size, fun k hk => hg.block k (by omega) fun e => ?_⟩
 have := (World.ownsRow.lt h) k e.symm
 omega
theorem Row.low {W W' : World} {b base : Nat} {l : List Value} (h : Row W b l) (hlt : b < base) (hb : Below base W W') : Row W' b l := by
 refine ⟨fun j v hj => ?_, Nat.lt_of_lt_of_le h.lt hb.size⟩
 rw [← h.c j v hj]
 simp [World.cell?, hb.block b hlt]
/-- An owned row is kept where its block is. -/
theorem own_blk {W W' : World} {base : Nat} {e : TypeId} {size n : Nat} {v : Value} {xs : List Value} (h : W.ownsRow base e size v n xs) (hb : ∀ g, v.ownBlock = some g → g < W.heap.size → base ≤ g → W'.heap[g]? = W.heap[g]?) : W'.ownsRow base e size v n xs := by
 refine ⟨h.1, ?_⟩
 rcases h.2 with h0 | ⟨g, cap, cur, hv, hbg, hg, rest⟩
 ·exact .inl h0
 ·have hlt : g < W.heap.size := by
   rcases Nat.lt_or_ge g W.heap.size with h | h
   ·exact h
   ·rw [Array.getElem?_eq_none h] at hg; cases hg
  exact .inr ⟨g, cap, cur, hv, hbg, (hb g (by rw [hv]; rfl) hlt hbg).trans hg, rest⟩
theorem own_lt {W : World} {base : Nat} {e : TypeId} {size n : Nat} {v : Value} {xs : List Value} (h : W.ownsRow base e size v n xs) (g : Nat) (hg : v.ownBlock = some g) : g < W.heap.size ∧ base ≤ g := by
 rcases h.2 with ⟨rfl, _⟩ | ⟨g', cap, cur, rfl, hbg, hh, rest⟩
 ·cases hg
 ·simp [Value.ownBlock] at hg
  subst hg
  refine ⟨?_, hbg⟩
  rcases Nat.lt_or_ge g' W.heap.size with h | h
  ·exact h
  ·rw [Array.getElem?_eq_none h] at hh; cases hh
theorem flat_get (rows : List (List Value)) (n : Nat) (hn : ∀ r ∈ rows, r.length = n) (i : Nat) (r : List Value) (h : rows[i]? = some r) (k : Nat) (v : Value) (hv : r[k]? = some v) : rows.flatten[i * n + k]? = some v := by
 induction rows generalizing i with
 | nil => simp at h
 | cons a t ih =>
  have ha : a.length = n := hn a (by simp)
  have hk : k < n := by
   have hr : r.length = n := hn r (List.mem_of_getElem? h)
   rcases Nat.lt_or_ge k r.length with h' | h'
   ·omega
   ·rw [List.getElem?_eq_none h'] at hv; cases hv
  cases i with
  | zero =>
   simp at h; subst h
   rw [List.flatten_cons, List.getElem?_append_left (by omega)]
   simpa using hv
  | succ i =>
   simp at h
   have := ih (fun r hr => hn r (by simp [hr])) i h
   rw [List.flatten_cons, List.getElem?_append_right (by rw [ha, Nat.succ_mul]; omega), ha]
   have e : (i + 1) * n + k - n = i * n + k := by rw [Nat.succ_mul]; omega
   rw [e]
   exact this
/-- An owned row reads as its rows. -/
theorem own_rows {W : World} {base : Nat} {e : TypeId} {n : Nat} {v : Value} {rows : List (List Value)} (hn : ∀ r ∈ rows, r.length = n) (h : W.ownsRow base e n v rows.length rows.flatten) : ∃ oa cap, v = .slice oa rows.length cap ∧ Sl W oa n rows := by
 rcases h.2 with ⟨rfl, h0⟩ | ⟨g, cap, cur, rfl, hbg, hg, hc, hm, hs, ht⟩
 ·have : rows = [] := List.length_eq_zero_iff.1 h0
  subst this
  exact ⟨none, 0, rfl, fun h => absurd rfl h⟩
 ·refine ⟨_, cap, rfl, fun _ => ⟨g, 0, rfl, ?_⟩⟩
  have hlt : g < W.heap.size := by
   rcases Nat.lt_or_ge g W.heap.size with h | h
   ·exact h
   ·rw [Array.getElem?_eq_none h] at hg; cases hg
  refine ⟨hlt, fun i r hi k u hu => ?_⟩
  have hq := flat_get rows n hn i r hi k u hu
  rw [← ht, List.getElem?_take] at hq
  split at hq
  ·simp [World.cell?, hg]
   simpa using hq
  ·cases hq
/-- A block whose first cells are these, none frozen. -/
structure Blk (W : World) (b : Nat) (l : List Value) : Prop where
 c : ∀ i v, l[i]? = some v → W.cell? ⟨b, i, none⟩ = some v
 f : ∀ i, W.frozen? ⟨b, i, none⟩ = false
 lt : b < W.heap.size
theorem Blk.new (W : World) (l : List Value) (t : TypeId) : Blk (W.alloc (.cells l.toArray t)) W.heap.size l := by
 refine ⟨fun j v hj => ?_, fun i => ?_, by simp⟩
 ·exact (Row.new W l t).c j v hj
 ·simp
theorem Blk.keep {W W' : World} {b : Nat} {l : List Value} (h : Blk W b l) (hb : Below W.heap.size W W') : Blk W' b l := by
 have e := hb.block b h.lt
 refine ⟨fun i v hi => ?_, fun i => ?_, Nat.lt_of_lt_of_le h.lt hb.size⟩
 ·rw [← h.c i v hi]; simp [World.cell?, e]
 ·rw [← h.f i]; simp [World.frozen?, e]
theorem Blk.keepG {W W' : World} {b nS : Nat} {l : List Value} (h : Blk W b l) (hg : W.grownBy W' (some nS)) (hne : b ≠ nS) : Blk W' b l := by
 have e := hg.block b h.lt (fun e => hne (by injection e))
 refine ⟨fun i v hi => ?_, fun i => ?_, Nat.lt_of_lt_of_le h.lt hg.size⟩
 ·rw [← h.c i v hi]; simp [World.cell?, e]
 ·rw [← h.f i]; simp [World.frozen?, e]
theorem Blk.put {W : World} {b : Nat} {l : List Value} (h : Blk W b l) (i : Nat) (v : Value) : Blk (W.setCell ⟨b, i, none⟩ v) b (l.set i v) := by
 refine ⟨fun j u hj => ?_, fun j => ?_, by have := h.lt; simp [World.setCell]; exact this⟩
 ·rw [List.getElem?_set] at hj
  by_cases e : i = j
  ·subst e
   simp at hj
   obtain ⟨hl, rfl⟩ := hj
   have := h.c i _ (List.getElem?_eq_getElem hl)
   simp [go_sem, this]
  ·rw [if_neg e] at hj
   have := h.c j u hj
   rw [← this]
   simp [go_sem]
 ·have := h.f j
  simp [go_sem, this]
theorem Blk.low {W W' : World} {b base : Nat} {l : List Value} (h : Blk W b l) (hlt : b < base) (hb : Below base W W') : Blk W' b l := by
 have e := hb.block b hlt
 refine ⟨fun i v hi => ?_, fun i => ?_, Nat.lt_of_lt_of_le h.lt hb.size⟩
 ·rw [← h.c i v hi]; simp [World.cell?, e]
 ·rw [← h.f i]; simp [World.frozen?, e]
def pflat (ps : List Int) : List Value := ps.map fun p => .int .i64 p
theorem pvals_flat (ps : List Int) : (pvals ps).flatten = pflat ps := by
 induction ps with
 | nil => rfl
 | cons a t ih => simp only [pvals, pflat, List.map_cons, List.flatten_cons] at ih ⊢; rw [ih]; rfl
theorem pvals_len (ps : List Int) : (pvals ps).length = ps.length := by simp [pvals]
theorem own_fresh {W : World} {base size n cap m : Nat} {e : TypeId} {oa : Option Addr} {xs : List Value} (h : W.ownsRow base e size (.slice oa n cap) m xs) : ∀ a, oa = some a → base ≤ a.block := fun a ha => by
 rcases h.2 with ⟨h1, _⟩ | ⟨g, cap', cur, h1, h2, _⟩
 ·injection h1 with h1
  rw [h1] at ha; cases ha
 ·injection h1 with h1
  rw [h1] at ha; injection ha with ha; subst ha; exact h2
/-- The cells of a block that was just made. -/
theorem new_cells (W : World) (l : List Value) (t : TypeId) : ∀ (j : Nat) (u : Value), l[j]? = some u → (W.alloc (.cells l.toArray t)).cell? ((⟨W.heap.size, 0, none⟩ : Addr).add j) = some u := by
 intro j u hu
 have := (Row.new W l t).c j u hu
 rw [← this]
 congr 1
 unfold Addr.add
 split <;> simp_all
theorem own_cap {W : World} {base size n cap m : Nat} {e : TypeId} {oa : Option Addr} {xs : List Value} (h : W.ownsRow base e size (.slice oa n cap) m xs) : n ≤ cap ∧ (oa = none → cap = 0) := by
 rcases h.2 with ⟨h1, _⟩ | ⟨g, cap', cur, h1, _, _, h2, _⟩
 ·injection h1 with h1 h3 h4
  exact ⟨by omega, fun _ => h4⟩
 ·injection h1 with h1 h3 h4
  subst h1 h3 h4
  exact ⟨h2, fun e => by cases e⟩
set_option maxHeartbeats 400000 in
theorem round_any (n k : Int) (w : World) (h3 : 0 < k) (h4 : k ≤ 9223372036854775807) :
  Calls Tryz.prog 8 #[.int .i64 n, .int .i64 k] w fun e w' => e = .returned (.int .i64 (n % k)) ∧ w = w' := by
 have hk : (k == 0) = false := by simp; omega
 by_cases hn : n.tmod k < 0
 ·have h5 := tmod_neg n k h3 hn
  have H5 := Lib.hid h5
  clear h5
  go_enter Tryz.func8, Tryz.ntmps8
  go_wp2
  go_ret
  have h6 := H5.out
  exact ⟨ret_int (by rw [IntWalk.wrap64_in _ (by omega)]; exact h6.1), rfl⟩
 ·have h5 := tmod_nn n k h3 (by omega)
  have H5 := Lib.hid h5
  clear h5
  go_enter Tryz.func8, Tryz.ntmps8
  go_wp2
  go_ret
  exact ⟨ret_int H5.out, rfl⟩
/-- The source's box. -/
structure Src (W : World) (nS : Nat) (os : Option Addr) (cap : Nat) (xs : List Int) : Prop where
 box : ∃ k : Nat, k ≤ xs.length ∧ Cells2 W nS (.slice os xs.length cap) (.int .i64 k)
 ints : Sl W os 1 (pvals xs)
 off : xs ≠ [] → ∀ b o s, os = some ⟨b, o, s⟩ → b ≠ nS
 len : xs.length ≤ 9223372036854775807
theorem grown_trans {a b c : World} {r : Option Nat} (h : a.grownBy b r) (k : b.grownBy c r) : a.grownBy c r :=
 ⟨k.os.trans h.os, k.tape.trans h.tape, k.output.trans h.output, Nat.le_trans h.size k.size, fun i hi hn => (k.block i (Nat.lt_of_lt_of_le hi h.size) hn).trans (h.block i hi hn)⟩
theorem grown_of_below {a b : World} {r : Option Nat} (h : Below a.heap.size a b) : a.grownBy b r := ⟨h.os, h.tape, h.output, h.size, fun k hk _ => h.block k hk⟩
theorem grown_set (a : World) (n i : Nat) (v : Value) : a.grownBy (a.setCell ⟨n, i, none⟩ v) (some n) :=
 ⟨rfl, rfl, rfl, by simp [World.setCell], fun k _ hn => Below.heap_setCell a ⟨n, i, none⟩ v k (fun e => hn (by rw [e]))⟩
theorem RowsAt.keepG {w w' : World} {b off n nS : Nat} {l : List (List Value)} (h : RowsAt w b off n l) (hg : w.grownBy w' (some nS)) (hne : b ≠ nS) : RowsAt w' b off n l :=
 ⟨Nat.lt_of_lt_of_le h.lt hg.size, fun i r hi k v hv => by
  rw [← h.c i r hi k v hv]
  simp [World.cell?, hg.block b h.lt (fun e => hne (by injection e))]⟩
theorem Src.low {w W W' : World} {nS : Nat} {os : Option Addr} {cap : Nat} {xs : List Int} (h : Src W nS os cap xs) (i0 : Sl w os 1 (pvals xs)) (hn : nS < w.heap.size) (hb : Below w.heap.size W W') : Src W' nS os cap xs := by
 obtain ⟨⟨k, hk, hc⟩, hi, ho, hl⟩ := h
 refine ⟨⟨k, hk, ?_⟩, ?_, ho, hl⟩
 ·have e := hb.block nS hn
  obtain ⟨c0, c1, f0, f1, lt⟩ := hc
  refine ⟨?_, ?_, ?_, ?_, Nat.lt_of_lt_of_le lt hb.size⟩
  ·rw [← c0]; simp [World.cell?, e]
  ·rw [← c1]; simp [World.cell?, e]
  ·rw [← f0]; simp [World.frozen?, e]
  ·rw [← f1]; simp [World.frozen?, e]
 ·intro hne
  obtain ⟨b, off, e1, hr⟩ := hi hne
  obtain ⟨b', off', e1', hr'⟩ := i0 hne
  rw [e1] at e1'
  injection e1' with e1'
  injection e1' with e1' _ _
  have hlt := hr'.lt
  refine ⟨b, off, e1, ⟨Nat.lt_of_lt_of_le hr.lt hb.size, fun i' r hr1 k' v' hv' => ?_⟩⟩
  rw [← hr.c i' r hr1 k' v' hv']
  simp [World.cell?, hb.block b (by omega)]
theorem Src.keepB {W W' : World} {nS : Nat} {os : Option Addr} {cap : Nat} {xs : List Int} (h : Src W nS os cap xs) (hb : Below W.heap.size W W') : Src W' nS os cap xs := by
 obtain ⟨⟨k, hk, hc⟩, hi, ho, hl⟩ := h
 exact ⟨⟨k, hk, hc.keep hb⟩, hi.keep hb, ho, hl⟩
theorem src_lt {W : World} {nS : Nat} {os : Option Addr} {cap : Nat} {xs : List Int} (h : Src W nS os cap xs) : nS < W.heap.size := by
 obtain ⟨⟨k, hk, hc⟩, _⟩ := h
 exact hc.lt
set_option maxRecDepth 100000 in
set_option maxHeartbeats 2000000 in
theorem next_any (W : World) (nS : Nat) (os : Option Addr) (cap : Nat) (xs : List Int) (n : Int) (hS : Src W nS os cap xs) (h1 : 1 ≤ n) (h2 : n ≤ 1000000000000) :
  Calls Tryz.prog 30 #[.pointer (some ⟨nS, 0, none⟩), .int .i64 n] W (fun e W' => ∃ r : Int, 0 ≤ r ∧ r < n ∧ e = .returned (.int .i64 r) ∧ W.grownBy W' (some nS) ∧ Src W' nS os cap xs) := by
 obtain ⟨⟨k, hk, hc⟩, hints, hoff, hlen⟩ := hS
 have k0 := hc.c0; have k1 := hc.c1; have k2 := hc.f0; have k3 := hc.f1; have k4 := hc.lt
 by_cases hlt : k < xs.length
 ·have hlt' : decide ((xs.length : Int) ≤ (k : Int)) = false := decide_eq_false (by omega)
  have hlt'' : decide (xs.length ≤ k) = false := decide_eq_false (by omega)
  obtain ⟨x, hx⟩ : ∃ x, xs[k]? = some x := ⟨_, List.getElem?_eq_getElem hlt⟩
  obtain ⟨b, off, rfl, hr⟩ := hints (pvals_ne hlt)
  have hbne := hoff (by intro h; subst h; simp at hlt) b off none rfl
  go_enter Tryz.func30, Tryz.ntmps30
  go_wp2_with fail
  go_quiet (fail)
  have hcV := hc.keep (below_drew W nq)
  have hrV := hr.keep (below_drew W nq)
  have hgV : W.grownBy (W.drewN nq) (some nS) := grown_of_below (below_drew W nq)
  clear k0 k1 k2 k3 k4
  generalize W.drewN nq = V at hcV hrV hgV ⊢
  have k0 := hcV.c0; have k1 := hcV.c1; have k2 := hcV.f0; have k3 := hcV.f1; have k4 := hcV.lt
  go_wp2_with fail
  have hcX : Cells2 (V.setCell ⟨nS, 1, none⟩ (.int .i64 ((k : Int) + 1))) nS (.slice (some ⟨b, off, none⟩) xs.length cap) (.int .i64 ((k : Int) + 1)) := hcV.put1 _
  have hgX := grown_trans hgV (grown_set V nS 1 (.int .i64 ((k : Int) + 1)))
  have hrX := hrV.keepG (grown_set V nS 1 (.int .i64 ((k : Int) + 1))) hbne
  clear k0 k1 k2 k3 k4 hcV hrV hgV
  generalize (V.setCell ⟨nS, 1, none⟩ (.int .i64 ((k : Int) + 1))) = X at hcX hgX hrX ⊢
  have k0 := hcX.c0; have k1 := hcX.c1; have k2 := hcX.f0; have k3 := hcX.f1; have k4 := hcX.lt
  have x0 : X.cell? ⟨b, off + k, none⟩ = some (.int .i64 x) := by have := hrX.c k _ (pvals_get hx) 0 _ rfl; simpa using this
  have hw1 : IntKind.i64.wrap ((k : Int) + 1 - 1) = (k : Int) := by rw [IntWalk.i64_in _ (by omega)]; omega
  have hw2 : IntKind.i64.wrap (k : Int) = (k : Int) := IntWalk.i64_in _ (by omega)
  have HC : Hid (∀ w, Calls Tryz.prog 8 #[.int .i64 x, .int .i64 n] w fun e w' => e = .returned (.int .i64 (x % n)) ∧ w' = w) := Lib.hid (fun w => (round_any x n w (by omega) (by omega)).mono fun _ _ ⟨h, h'⟩ => ⟨h, h'.symm⟩)
  have hr0 : 0 ≤ x % n := Int.emod_nonneg _ (by omega)
  have hr1 : x % n < n := Int.emod_lt_of_pos _ (by omega)
  have HR0 := Lib.hid hr0
  have HR1 := Lib.hid hr1
  clear hr0 hr1
  go_quiet ((go_at_call 8; exact Calls.quiet_of_same (HC.out _)))
  have hcY := hcX.keep (below_drew X nq)
  have hrY := hrX.keep (below_drew X nq)
  have hgY := grown_trans hgX (grown_of_below (below_drew X nq))
  clear k0 k1 k2 k3 k4 x0 hw1 hw2
  generalize X.drewN nq = Y at hcY hrY hgY ⊢
  go_wp2
  go_ret
  exact ⟨x % n, HR0.out, HR1.out, rfl, hgY, ⟨⟨k + 1, by omega, hcY⟩, fun _ => ⟨b, off, rfl, hrY⟩, hoff, hlen⟩⟩
 ·have hlt' : decide ((xs.length : Int) ≤ (k : Int)) = true := decide_eq_true (by omega)
  have hlt'' : decide (xs.length ≤ k) = true := decide_eq_true (by omega)
  go_enter Tryz.func30, Tryz.ntmps30
  go_wp2_with fail
  go_quiet (fail)
  have hcV := hc.keep (below_drew W nq)
  have hiV := hints.keep (below_drew W nq)
  have hgV : W.grownBy (W.drewN nq) (some nS) := grown_of_below (below_drew W nq)
  clear k0 k1 k2 k3 k4
  generalize W.drewN nq = V at hcV hiV hgV ⊢
  go_wp2
  go_ret
  exact ⟨0, by omega, by omega, rfl, hgV, ⟨⟨k, hk, hcV⟩, hiV, hoff, hlen⟩⟩
theorem from_any (os : Option Addr) (cap n : Nat) (w : World) : Calls Tryz.prog 29 #[.slice os n cap] w (fun e w' => e = .returned (.pointer (some ⟨w.heap.size, 0, none⟩)) ∧ w' = w.alloc (.cells #[.slice os n cap, .int .i64 0] 115)) := by
 go_enter Tryz.func29, Tryz.ntmps29
 go_wp2
 go_ret
 exact ⟨rfl, rfl⟩
theorem src_new (w : World) (os : Option Addr) (cap : Nat) (xs : List Int) (hI : Sl w os 1 (pvals xs)) (hl : xs.length ≤ 9223372036854775807) : Src (w.alloc (.cells #[.slice os xs.length cap, .int .i64 0] 115)) w.heap.size os cap xs := by
 refine ⟨⟨0, by omega, Cells2.new w _ _ 115⟩, hI.keep ((Below.refl _ _).alloc (Nat.le_refl _) _), ?_, hl⟩
 intro hne b o s e
 obtain ⟨b', off', e', hr⟩ := hI (by intro h; exact hne (by simpa [pvals] using h))
 rw [e] at e'
 injection e' with e'
 injection e' with e' _ _
 have := hr.lt
 omega
end Go.Proofs.Ng
end

section
/-
 Points; the library's comparisons; the order of two points.
-/
namespace Go.Proofs.Ng
open Go.RowKit
def BoolP (b : Bool) (w : World) (e : Ending) (w' : World) : Prop := e = .returned (.bool b) ∧ Below w.heap.size w w'
theorem boolP_mk {a b : Bool} {w w' : World} (h : a = b) (hb : Below w.heap.size w w') : BoolP a w (.returned (.bool b)) w' := by subst h; exact ⟨rfl, hb⟩
/-- The old world with draws behind it and new blocks. -/
def Gr (w w' : World) : Prop := ∃ q os, w' = Sort.grow (w.drewN q) os
theorem Gr.refl (w : World) : Gr w w := ⟨0, #[], by rw [Sort.grow_empty]; rfl⟩
theorem Gr.drew {w w' : World} (h : Gr w w') : Gr w w'.drew := by
 obtain ⟨q, os, rfl⟩ := h
 exact ⟨q + 1, os, rfl⟩
theorem Gr.drewN {w w' : World} (h : Gr w w') (n : Nat) : Gr w (w'.drewN n) := by
 obtain ⟨q, os, rfl⟩ := h
 exact ⟨q + n, os, by simp [World.drewN, Sort.grow, Nat.add_assoc]⟩
theorem Gr.alloc {w w' : World} (h : Gr w w') (o : Obj) : Gr w (w'.alloc o) := by
 obtain ⟨q, os, rfl⟩ := h
 exact ⟨q, os ++ #[o], by rw [Sort.alloc_eq_grow, Sort.grow_grow]⟩
theorem Gr.trans {w a b : World} (h : Gr w a) (k : Gr a b) : Gr w b := by
 obtain ⟨q, os, rfl⟩ := h
 obtain ⟨q', os', rfl⟩ := k
 exact ⟨q + q', os ++ os', by simp [World.drewN, Sort.grow, Nat.add_assoc, Array.append_assoc]⟩
theorem Gr.below {w w' : World} (h : Gr w w') : Below w.heap.size w w' := by
 obtain ⟨q, os, rfl⟩ := h
 exact ⟨rfl, rfl, rfl, by simp, fun k hk => Sort.heap_grow_old _ _ hk⟩
/-- A point: a slice over its values. -/
def PtAt (W : World) (v : Value) (xs : List Int) : Prop := ∃ oa cap, v = .slice oa xs.length cap ∧ Sl W oa 1 (pvals xs)
theorem PtAt.keep {W W' : World} {v : Value} {xs : List Int} (h : PtAt W v xs) (hb : Below W.heap.size W W') : PtAt W' v xs := by
 obtain ⟨oa, cap, e, hs⟩ := h
 exact ⟨oa, cap, e, hs.keep hb⟩
/-- A slice of points. -/
structure Pts (W : World) (oa : Option Addr) (pts : List (List Int)) : Prop where
 ex : ∃ vs : List Value, vs.length = pts.length ∧ Sl W oa 1 (vs.map fun v => [v]) ∧ ∀ (k : Nat) (v : Value) (xs : List Int), vs[k]? = some v → pts[k]? = some xs → PtAt W v xs
theorem Pts.keep {W W' : World} {oa : Option Addr} {pts : List (List Int)} (h : Pts W oa pts) (hb : Below W.heap.size W W') : Pts W' oa pts := by
 obtain ⟨vs, h1, h2, h3⟩ := h.ex
 exact ⟨vs, h1, h2.keep hb, fun k v xs hv hx => (h3 k v xs hv hx).keep hb⟩
theorem map_ne {α : Type} {f : α → List Value} {l : List α} {k : Nat} (h : k < l.length) : l.map f ≠ [] := by
 intro h0; rw [List.map_eq_nil_iff] at h0; rw [h0] at h; simp at h
theorem map_get {α : Type} {f : α → List Value} {l : List α} {k : Nat} {a : α} (h : l[k]? = some a) : (l.map f)[k]? = some (f a) := by simp [h]
/-- What lies at a point's place. -/
theorem Pts.get {W : World} {oa : Option Addr} {pts : List (List Int)} (h : Pts W oa pts) {k : Nat} {xs : List Int} (hk : pts[k]? = some xs) :
  ∃ b off ox cx, oa = some ⟨b, off, none⟩ ∧ W.cell? ⟨b, off + k, none⟩ = some (.slice ox xs.length cx) ∧ b < W.heap.size ∧ Sl W ox 1 (pvals xs) := by
 obtain ⟨vs, h1, h2, h3⟩ := h.ex
 have hlt := (List.getElem?_eq_some_iff.1 hk).1
 obtain ⟨v, hv⟩ : ∃ v, vs[k]? = some v := ⟨_, List.getElem?_eq_getElem (by rw [h1]; exact hlt)⟩
 obtain ⟨ox, cx, rfl, hs⟩ := h3 k v xs hv hk
 obtain ⟨b, off, e, hr⟩ := h2 (map_ne (k := k) (by rw [h1]; exact hlt))
 refine ⟨b, off, ox, cx, e, ?_, hr.lt, hs⟩
 have := hr.c k _ (map_get hv) 0 _ rfl
 simpa using this
theorem pv_get {W : World} {ox : Option Addr} {xs : List Int} (h : Sl W ox 1 (pvals xs)) {k : Nat} {x : Int} (hk : xs[k]? = some x) :
  ∃ b off, ox = some ⟨b, off, none⟩ ∧ W.cell? ⟨b, off + k, none⟩ = some (.int .i64 x) ∧ b < W.heap.size := by
 obtain ⟨b, off, e, hr⟩ := h (pvals_ne (List.getElem?_eq_some_iff.1 hk).1)
 refine ⟨b, off, e, ?_, hr.lt⟩
 have := hr.c k _ (pvals_get hk) 0 _ rfl
 simpa using this
end Go.Proofs.Ng
end

section
/-
 Owned rows of numbers.
-/
namespace Go.Proofs.Ng
open Go.RowKit
theorem own_set1 {W : World} {base n c g size : Nat} {t : TypeId} {xs : List Value} (h : W.ownsRow base t size (.slice (some ⟨g, 0, none⟩) n c) n xs) (i : Nat) (hn : 0 < n) (x : Value) : (W.setCell ⟨g, i, none⟩ x).ownsRow base t size (.slice (some ⟨g, 0, none⟩) n c) n (xs.set i x) := by
 obtain ⟨hl, hv⟩ := h
 refine ⟨by simp [hl], .inr ?_⟩
 rcases hv with ⟨h1, h2⟩ | ⟨g', cap, cur, h1, h2, h3, h4, h5, h6, h7⟩
 ·omega
 ·injection h1 with h1 h8 h9
  injection h1 with h1
  injection h1 with h1 _ _
  subst h1 h9
  refine ⟨g, c, cur.setIfInBounds i x, rfl, h2, ?_, h4, h5, by simp [h6], ?_⟩
  ·have hg : g < W.heap.size := by
    rcases Nat.lt_or_ge g W.heap.size with h1 | h1
    ·exact h1
    ·rw [Array.getElem?_eq_none h1] at h3; cases h3
   simp [World.setCell, Array.getElem?_modify, h3]
  ·rw [← h7]
   simp [List.take_set]
theorem own_frozen {W : World} {base n c g size : Nat} {t : TypeId} {xs : List Value} (h : W.ownsRow base t size (.slice (some ⟨g, 0, none⟩) n c) n xs) (hn : 0 < n) (i : Nat) : W.frozen? ⟨g, i, none⟩ = false := by
 rcases h.2 with ⟨h1, h2⟩ | ⟨g', cap, cur, h1, h2, h3, -⟩
 ·omega
 ·injection h1 with h1 _ _
  injection h1 with h1
  injection h1 with h1 _ _
  subst h1
  simp [World.frozen?, h3]
theorem own_some {W : World} {base n size : Nat} {t : TypeId} {v : Value} {xs : List Value} (h : W.ownsRow base t size v n xs) (hn : 0 < n) : ∃ g c, v = .slice (some ⟨g, 0, none⟩) n c := by
 rcases h.2 with ⟨h1, h2⟩ | ⟨g', cap, cur, h1, _⟩
 ·omega
 ·exact ⟨g', cap, h1⟩
/-- What an owned row's cell holds. -/
theorem own_at {W : World} {base size n c g : Nat} {t : TypeId} {xs : List Value} (h : W.ownsRow base t size (.slice (some ⟨g, 0, none⟩) n c) n xs) (i : Nat) (v : Value) (hv : xs[i]? = some v) : W.cell? ⟨g, i, none⟩ = some v := by
 have hl := h.1
 have hi := (List.getElem?_eq_some_iff.1 hv).1
 rcases h.2 with ⟨h1, h2⟩ | ⟨g', cap, cur, h1, h2, h3, h4, h5, h6, h7⟩
 ·injection h1 with h1 _ _; cases h1
 ·injection h1 with h1 _ _
  injection h1 with h1
  injection h1 with h1 _ _
  subst h1
  rw [← h7, List.getElem?_take] at hv
  split at hv
  ·simp [World.cell?, h3]
   simpa using hv
  ·cases hv
theorem info3 : (Tryz.prog.info? 3).map (fun i => (i.zero, i.size, i.bytes)) = some (some (.int .i64 0), 1, 8) := by kernel_rfl
theorem under24 : Tryz.prog.underlying 22 = some (.slice 3) := by kernel_rfl
end Go.Proofs.Ng
end

section
/-
 Contracts of the library, laid at this program in plain words (the form is lay-plain.mjs's).
-/
namespace Go.Proofs
open Go.Shelf
def Tryz.prefixL_ren : Go.Shelf.Ren := ⟨fun | 99 => 49 | 206 => 75 | n => n, fun | 3 => 3 | 4 => 4 | 9 => 9 | n => n, fun | n => n⟩
theorem Tryz.prefixL : Go.Proofs.Lays.n99 Tryz.prog Tryz.prefixL_ren := {
 mixed := by kernel_rfl
 f99 := Tryz.func49.trans (congrArg some (by kernel_rfl))
 f206 := Tryz.func75.trans (congrArg some (by kernel_rfl))
 t3 := Tryz.underlying3
 a3 := Tryz.isAgg3
 z3 := Tryz.sizeOf3
 v3 := Tryz.zeroValue3
 t4 := Tryz.underlying4
 a4 := Tryz.isAgg4
 z4 := Tryz.sizeOf4
 v4 := Tryz.zeroValue4
 t9 := Tryz.underlying9
 a9 := Tryz.isAgg9
 z9 := Tryz.sizeOf9
 v9 := Tryz.zeroValue9 }
def Tryz.cutL_ren : Go.Shelf.Ren := ⟨fun | 145 => 95 | 217 => 140 | 219 => 128 | 220 => 113 | 224 => 142 | 225 => 141 | 266 => 153 | 267 => 143 | 314 => 154 | n => n, fun | 3 => 3 | 4 => 4 | 5 => 5 | 9 => 9 | 46 => 116 | 51 => 176 | 59 => 150 | 146 => 199 | n => n, fun | 1 => 1 | n => n⟩
theorem Tryz.cutL : Go.Proofs.LaysM.n145 Tryz.prog Tryz.cutL_ren := {
 mixed := by kernel_rfl
 f145 := Tryz.func95.trans (congrArg some (by kernel_rfl))
 f217 := Tryz.func140.trans (congrArg some (by kernel_rfl))
 f219 := Tryz.func128.trans (congrArg some (by kernel_rfl))
 f220 := Tryz.func113.trans (congrArg some (by kernel_rfl))
 f224 := Tryz.func142.trans (congrArg some (by kernel_rfl))
 f225 := Tryz.func141.trans (congrArg some (by kernel_rfl))
 f266 := Tryz.func153.trans (congrArg some (by kernel_rfl))
 f267 := Tryz.func143.trans (congrArg some (by kernel_rfl))
 f314 := Tryz.func154.trans (congrArg some (by kernel_rfl))
 t3 := Tryz.underlying3
 a3 := Tryz.isAgg3
 z3 := Tryz.sizeOf3
 v3 := Tryz.zeroValue3
 t4 := Tryz.underlying4
 a4 := Tryz.isAgg4
 z4 := Tryz.sizeOf4
 v4 := Tryz.zeroValue4
 t5 := Tryz.underlying5
 a5 := Tryz.isAgg5
 z5 := Tryz.sizeOf5
 v5 := Tryz.zeroValue5
 t9 := Tryz.underlying9
 a9 := Tryz.isAgg9
 z9 := Tryz.sizeOf9
 v9 := Tryz.zeroValue9
 t46 := Tryz.underlying116
 a46 := Tryz.isAgg116
 z46 := Tryz.sizeOf116
 v46 := Tryz.zeroValue116
 t51 := Tryz.underlying176
 a51 := Tryz.isAgg176
 z51 := Tryz.sizeOf176
 v51 := Tryz.zeroValue176
 t59 := Tryz.underlying150
 a59 := Tryz.isAgg150
 z59 := Tryz.sizeOf150
 v59 := Tryz.zeroValue150
 t146 := Tryz.underlying199
 a146 := Tryz.isAgg199
 z146 := Tryz.sizeOf199
 v146 := Tryz.zeroValue199
 g1 := by kernel_rfl
 i3 := by kernel_rfl
 i4 := by kernel_rfl
 i5 := by kernel_rfl
 i9 := by kernel_rfl
 i46 := by kernel_rfl
 i51 := by kernel_rfl
 i59 := by kernel_rfl
 i146 := by kernel_rfl
 m1 := by kernel_rfl
 s1_3 := fun w h => Go.Proofs.cell_of_shapedOpen_int (zero := #[.int .i64 0]) (t := 3) h (of_decide_eq_true (by kernel_rfl)) (by kernel_rfl) rfl (by kernel_rfl) (by kernel_rfl) Tryz.underlying3 }
def Tryz.splitL_ren : Go.Shelf.Ren := ⟨fun | 138 => 130 | 143 => 131 | 146 => 96 | 195 => 144 | 197 => 145 | 217 => 140 | 218 => 146 | 219 => 128 | 221 => 114 | 224 => 142 | 225 => 141 | 260 => 155 | 266 => 153 | 267 => 143 | 268 => 129 | 314 => 154 | n => n, fun | 0 => 0 | 3 => 3 | 4 => 4 | 5 => 5 | 9 => 9 | 21 => 21 | 31 => 152 | 46 => 116 | 51 => 176 | 105 => 188 | 119 => 206 | 138 => 208 | 139 => 209 | 146 => 199 | n => n, fun | 1 => 1 | 3 => 6 | 4 => 7 | n => n⟩
theorem Tryz.splitL : Go.Proofs.LaysM.n146 Tryz.prog Tryz.splitL_ren := {
 mixed := by kernel_rfl
 f138 := Tryz.func130.trans (congrArg some (by kernel_rfl))
 f143 := Tryz.func131.trans (congrArg some (by kernel_rfl))
 f146 := Tryz.func96.trans (congrArg some (by kernel_rfl))
 f195 := Tryz.func144.trans (congrArg some (by kernel_rfl))
 f197 := Tryz.func145.trans (congrArg some (by kernel_rfl))
 f217 := Tryz.func140.trans (congrArg some (by kernel_rfl))
 f218 := Tryz.func146.trans (congrArg some (by kernel_rfl))
 f219 := Tryz.func128.trans (congrArg some (by kernel_rfl))
 f221 := Tryz.func114.trans (congrArg some (by kernel_rfl))
 f224 := Tryz.func142.trans (congrArg some (by kernel_rfl))
 f225 := Tryz.func141.trans (congrArg some (by kernel_rfl))
 f260 := Tryz.func155.trans (congrArg some (by kernel_rfl))
 f266 := Tryz.func153.trans (congrArg some (by kernel_rfl))
 f267 := Tryz.func143.trans (congrArg some (by kernel_rfl))
 f268 := Tryz.func129.trans (congrArg some (by kernel_rfl))
 f314 := Tryz.func154.trans (congrArg some (by kernel_rfl))
 t0 := Tryz.underlying0
 a0 := Tryz.isAgg0
 z0 := Tryz.sizeOf0
 v0 := Tryz.zeroValue0
 t3 := Tryz.underlying3
 a3 := Tryz.isAgg3
 z3 := Tryz.sizeOf3
 v3 := Tryz.zeroValue3
 t4 := Tryz.underlying4
 a4 := Tryz.isAgg4
 z4 := Tryz.sizeOf4
 v4 := Tryz.zeroValue4
 t5 := Tryz.underlying5
 a5 := Tryz.isAgg5
 z5 := Tryz.sizeOf5
 v5 := Tryz.zeroValue5
 t9 := Tryz.underlying9
 a9 := Tryz.isAgg9
 z9 := Tryz.sizeOf9
 v9 := Tryz.zeroValue9
 t21 := Tryz.underlying21
 a21 := Tryz.isAgg21
 z21 := Tryz.sizeOf21
 v21 := Tryz.zeroValue21
 t31 := Tryz.underlying152
 a31 := Tryz.isAgg152
 z31 := Tryz.sizeOf152
 v31 := Tryz.zeroValue152
 t46 := Tryz.underlying116
 a46 := Tryz.isAgg116
 z46 := Tryz.sizeOf116
 v46 := Tryz.zeroValue116
 t51 := Tryz.underlying176
 a51 := Tryz.isAgg176
 z51 := Tryz.sizeOf176
 v51 := Tryz.zeroValue176
 t105 := Tryz.underlying188
 a105 := Tryz.isAgg188
 z105 := Tryz.sizeOf188
 v105 := Tryz.zeroValue188
 t119 := Tryz.underlying206
 a119 := Tryz.isAgg206
 z119 := Tryz.sizeOf206
 t138 := Tryz.underlying208
 a138 := Tryz.isAgg208
 z138 := Tryz.sizeOf208
 v138 := Tryz.zeroValue208
 t139 := Tryz.underlying209
 a139 := Tryz.isAgg209
 z139 := Tryz.sizeOf209
 v139 := Tryz.zeroValue209
 t146 := Tryz.underlying199
 a146 := Tryz.isAgg199
 z146 := Tryz.sizeOf199
 v146 := Tryz.zeroValue199
 g1 := by kernel_rfl
 g3 := by kernel_rfl
 g4 := by kernel_rfl
 i0 := by kernel_rfl
 i3 := by kernel_rfl
 i4 := by kernel_rfl
 i5 := by kernel_rfl
 i9 := by kernel_rfl
 i21 := by kernel_rfl
 i31 := by kernel_rfl
 i46 := by kernel_rfl
 i51 := by kernel_rfl
 i105 := by kernel_rfl
 i138 := by kernel_rfl
 i139 := by kernel_rfl
 i146 := by kernel_rfl
 m1 := by kernel_rfl
 s1_3 := fun w h => Go.Proofs.cell_of_shapedOpen_int (zero := #[.int .i64 0]) (t := 3) h (of_decide_eq_true (by kernel_rfl)) (by kernel_rfl) rfl (by kernel_rfl) (by kernel_rfl) Tryz.underlying3
 m3 := by kernel_rfl
 m4 := by kernel_rfl }
def Tryz.fmtL_ren : Go.Shelf.Ren := ⟨fun | 129 => 124 | 173 => 61 | 246 => 94 | 283 => 109 | 284 => 110 | 285 => 111 | 286 => 112 | 317 => 123 | 318 => 125 | 319 => 126 | 320 => 127 | 337 => 138 | 338 => 139 | n => n, fun | 0 => 0 | 2 => 2 | 3 => 3 | 4 => 4 | 5 => 5 | 9 => 9 | 20 => 20 | 37 => 102 | 46 => 116 | 51 => 176 | 53 => 163 | 171 => 162 | 173 => 166 | 212 => 175 | 213 => 177 | 232 => 197 | 233 => 198 | n => n, fun | 17 => 0 | 18 => 2 | 19 => 3 | n => n⟩
theorem Tryz.fmtL : Go.Proofs.LaysM.n173 Tryz.prog Tryz.fmtL_ren := {
 mixed := by kernel_rfl
 f129 := Tryz.func124.trans (congrArg some (by kernel_rfl))
 f173 := Tryz.func61.trans (congrArg some (by kernel_rfl))
 f246 := Tryz.func94.trans (congrArg some (by kernel_rfl))
 f283 := Tryz.func109.trans (congrArg some (by kernel_rfl))
 f284 := Tryz.func110.trans (congrArg some (by kernel_rfl))
 f285 := Tryz.func111.trans (congrArg some (by kernel_rfl))
 f286 := Tryz.func112.trans (congrArg some (by kernel_rfl))
 f317 := Tryz.func123.trans (congrArg some (by kernel_rfl))
 f318 := Tryz.func125.trans (congrArg some (by kernel_rfl))
 f319 := Tryz.func126.trans (congrArg some (by kernel_rfl))
 f320 := Tryz.func127.trans (congrArg some (by kernel_rfl))
 f337 := Tryz.func138.trans (congrArg some (by kernel_rfl))
 f338 := Tryz.func139.trans (congrArg some (by kernel_rfl))
 t0 := Tryz.underlying0
 a0 := Tryz.isAgg0
 z0 := Tryz.sizeOf0
 v0 := Tryz.zeroValue0
 t2 := Tryz.underlying2
 a2 := Tryz.isAgg2
 z2 := Tryz.sizeOf2
 v2 := Tryz.zeroValue2
 t3 := Tryz.underlying3
 a3 := Tryz.isAgg3
 z3 := Tryz.sizeOf3
 v3 := Tryz.zeroValue3
 t4 := Tryz.underlying4
 a4 := Tryz.isAgg4
 z4 := Tryz.sizeOf4
 v4 := Tryz.zeroValue4
 t5 := Tryz.underlying5
 a5 := Tryz.isAgg5
 z5 := Tryz.sizeOf5
 v5 := Tryz.zeroValue5
 t9 := Tryz.underlying9
 a9 := Tryz.isAgg9
 z9 := Tryz.sizeOf9
 v9 := Tryz.zeroValue9
 t20 := Tryz.underlying20
 a20 := Tryz.isAgg20
 z20 := Tryz.sizeOf20
 v20 := Tryz.zeroValue20
 t37 := Tryz.underlying102
 a37 := Tryz.isAgg102
 z37 := Tryz.sizeOf102
 v37 := Tryz.zeroValue102
 t46 := Tryz.underlying116
 a46 := Tryz.isAgg116
 z46 := Tryz.sizeOf116
 v46 := Tryz.zeroValue116
 t51 := Tryz.underlying176
 a51 := Tryz.isAgg176
 z51 := Tryz.sizeOf176
 v51 := Tryz.zeroValue176
 t53 := Tryz.underlying163
 a53 := Tryz.isAgg163
 z53 := Tryz.sizeOf163
 v53 := Tryz.zeroValue163
 t171 := Tryz.underlying162
 a171 := Tryz.isAgg162
 z171 := Tryz.sizeOf162
 v171 := Tryz.zeroValue162
 t173 := Tryz.underlying166
 a173 := Tryz.isAgg166
 z173 := Tryz.sizeOf166
 v173 := Tryz.zeroValue166
 t212 := Tryz.underlying175
 a212 := Tryz.isAgg175
 z212 := Tryz.sizeOf175
 v212 := Tryz.zeroValue175
 t213 := Tryz.underlying177
 a213 := Tryz.isAgg177
 z213 := Tryz.sizeOf177
 t232 := Tryz.underlying197
 a232 := Tryz.isAgg197
 z232 := Tryz.sizeOf197
 v232 := Tryz.zeroValue197
 t233 := Tryz.underlying198
 a233 := Tryz.isAgg198
 z233 := Tryz.sizeOf198
 v233 := Tryz.zeroValue198
 g17 := by kernel_rfl
 g18 := by kernel_rfl
 g19 := by kernel_rfl
 i0 := by kernel_rfl
 i2 := by kernel_rfl
 i3 := by kernel_rfl
 i4 := by kernel_rfl
 i5 := by kernel_rfl
 i9 := by kernel_rfl
 i20 := by kernel_rfl
 i37 := by kernel_rfl
 i46 := by kernel_rfl
 i51 := by kernel_rfl
 i53 := by kernel_rfl
 i171 := by kernel_rfl
 i173 := by kernel_rfl
 i212 := by kernel_rfl
 i232 := by kernel_rfl
 i233 := by kernel_rfl
 m17 := by kernel_rfl
 m18 := by kernel_rfl
 m19 := by kernel_rfl }
def Tryz.appL_ren : Go.Shelf.Ren := ⟨fun | 129 => 124 | 176 => 105 | 249 => 121 | 283 => 109 | 284 => 110 | 285 => 111 | 286 => 112 | 288 => 137 | 317 => 123 | 318 => 125 | 319 => 126 | 320 => 127 | 337 => 138 | 338 => 139 | n => n, fun | 0 => 0 | 2 => 2 | 3 => 3 | 4 => 4 | 5 => 5 | 9 => 9 | 20 => 20 | 37 => 102 | 46 => 116 | 51 => 176 | 53 => 163 | 171 => 162 | 173 => 166 | 212 => 175 | 213 => 177 | 232 => 197 | 233 => 198 | n => n, fun | 17 => 0 | 18 => 2 | 19 => 3 | n => n⟩
theorem Tryz.appL : Go.Proofs.LaysM.n176 Tryz.prog Tryz.appL_ren := {
 mixed := by kernel_rfl
 f129 := Tryz.func124.trans (congrArg some (by kernel_rfl))
 f176 := Tryz.func105.trans (congrArg some (by kernel_rfl))
 f249 := Tryz.func121.trans (congrArg some (by kernel_rfl))
 f283 := Tryz.func109.trans (congrArg some (by kernel_rfl))
 f284 := Tryz.func110.trans (congrArg some (by kernel_rfl))
 f285 := Tryz.func111.trans (congrArg some (by kernel_rfl))
 f286 := Tryz.func112.trans (congrArg some (by kernel_rfl))
 f288 := Tryz.func137.trans (congrArg some (by kernel_rfl))
 f317 := Tryz.func123.trans (congrArg some (by kernel_rfl))
 f318 := Tryz.func125.trans (congrArg some (by kernel_rfl))
 f319 := Tryz.func126.trans (congrArg some (by kernel_rfl))
 f320 := Tryz.func127.trans (congrArg some (by kernel_rfl))
 f337 := Tryz.func138.trans (congrArg some (by kernel_rfl))
 f338 := Tryz.func139.trans (congrArg some (by kernel_rfl))
 t0 := Tryz.underlying0
 a0 := Tryz.isAgg0
 z0 := Tryz.sizeOf0
 v0 := Tryz.zeroValue0
 t2 := Tryz.underlying2
 a2 := Tryz.isAgg2
 z2 := Tryz.sizeOf2
 v2 := Tryz.zeroValue2
 t3 := Tryz.underlying3
 a3 := Tryz.isAgg3
 z3 := Tryz.sizeOf3
 v3 := Tryz.zeroValue3
 t4 := Tryz.underlying4
 a4 := Tryz.isAgg4
 z4 := Tryz.sizeOf4
 v4 := Tryz.zeroValue4
 t5 := Tryz.underlying5
 a5 := Tryz.isAgg5
 z5 := Tryz.sizeOf5
 v5 := Tryz.zeroValue5
 t9 := Tryz.underlying9
 a9 := Tryz.isAgg9
 z9 := Tryz.sizeOf9
 v9 := Tryz.zeroValue9
 t20 := Tryz.underlying20
 a20 := Tryz.isAgg20
 z20 := Tryz.sizeOf20
 v20 := Tryz.zeroValue20
 t37 := Tryz.underlying102
 a37 := Tryz.isAgg102
 z37 := Tryz.sizeOf102
 v37 := Tryz.zeroValue102
 t46 := Tryz.underlying116
 a46 := Tryz.isAgg116
 z46 := Tryz.sizeOf116
 v46 := Tryz.zeroValue116
 t51 := Tryz.underlying176
 a51 := Tryz.isAgg176
 z51 := Tryz.sizeOf176
 v51 := Tryz.zeroValue176
 t53 := Tryz.underlying163
 a53 := Tryz.isAgg163
 z53 := Tryz.sizeOf163
 v53 := Tryz.zeroValue163
 t171 := Tryz.underlying162
 a171 := Tryz.isAgg162
 z171 := Tryz.sizeOf162
 v171 := Tryz.zeroValue162
 t173 := Tryz.underlying166
 a173 := Tryz.isAgg166
 z173 := Tryz.sizeOf166
 v173 := Tryz.zeroValue166
 t212 := Tryz.underlying175
 a212 := Tryz.isAgg175
 z212 := Tryz.sizeOf175
 v212 := Tryz.zeroValue175
 t213 := Tryz.underlying177
 a213 := Tryz.isAgg177
 z213 := Tryz.sizeOf177
 t232 := Tryz.underlying197
 a232 := Tryz.isAgg197
 z232 := Tryz.sizeOf197
 v232 := Tryz.zeroValue197
 t233 := Tryz.underlying198
 a233 := Tryz.isAgg198
 z233 := Tryz.sizeOf198
 v233 := Tryz.zeroValue198
 g17 := by kernel_rfl
 g18 := by kernel_rfl
 g19 := by kernel_rfl
 i0 := by kernel_rfl
 i2 := by kernel_rfl
 i3 := by kernel_rfl
 i4 := by kernel_rfl
 i5 := by kernel_rfl
 i9 := by kernel_rfl
 i20 := by kernel_rfl
 i37 := by kernel_rfl
 i46 := by kernel_rfl
 i51 := by kernel_rfl
 i53 := by kernel_rfl
 i171 := by kernel_rfl
 i173 := by kernel_rfl
 i212 := by kernel_rfl
 i232 := by kernel_rfl
 i233 := by kernel_rfl
 m17 := by kernel_rfl
 m18 := by kernel_rfl
 m19 := by kernel_rfl }
def Tryz.parL_ren : Go.Shelf.Ren := ⟨fun | 129 => 124 | 171 => 160 | 174 => 115 | 205 => 159 | 243 => 161 | 245 => 133 | 246 => 94 | 247 => 132 | 279 => 148 | 280 => 149 | 281 => 150 | 282 => 151 | 283 => 109 | 284 => 110 | 285 => 111 | 286 => 112 | 287 => 147 | 316 => 158 | 317 => 123 | 318 => 125 | 319 => 126 | 320 => 127 | 321 => 156 | 322 => 157 | 337 => 138 | 338 => 139 | n => n, fun | 0 => 0 | 2 => 2 | 3 => 3 | 4 => 4 | 5 => 5 | 9 => 9 | 20 => 20 | 21 => 21 | 37 => 102 | 46 => 116 | 51 => 176 | 53 => 163 | 75 => 170 | 80 => 214 | 85 => 171 | 127 => 210 | 143 => 211 | 145 => 213 | 167 => 190 | 168 => 193 | 210 => 204 | 171 => 162 | 173 => 166 | 175 => 191 | 212 => 175 | 213 => 177 | 232 => 197 | 233 => 198 | n => n, fun | 15 => 4 | 16 => 5 | 17 => 0 | 18 => 2 | 19 => 3 | n => n⟩
theorem Tryz.parL : Go.Proofs.LaysC.n174 Tryz.prog Tryz.parL_ren := {
 mixed := by kernel_rfl
 f129 := Tryz.func124.trans (congrArg some (by kernel_rfl))
 f171 := Tryz.func160.trans (congrArg some (by kernel_rfl))
 f174 := Tryz.func115.trans (congrArg some (by kernel_rfl))
 f205 := Tryz.func159.trans (congrArg some (by kernel_rfl))
 f243 := Tryz.func161.trans (congrArg some (by kernel_rfl))
 f245 := Tryz.func133.trans (congrArg some (by kernel_rfl))
 f246 := Tryz.func94.trans (congrArg some (by kernel_rfl))
 f247 := Tryz.func132.trans (congrArg some (by kernel_rfl))
 f279 := Tryz.func148.trans (congrArg some (by kernel_rfl))
 f280 := Tryz.func149.trans (congrArg some (by kernel_rfl))
 f281 := Tryz.func150.trans (congrArg some (by kernel_rfl))
 f282 := Tryz.func151.trans (congrArg some (by kernel_rfl))
 f283 := Tryz.func109.trans (congrArg some (by kernel_rfl))
 f284 := Tryz.func110.trans (congrArg some (by kernel_rfl))
 f285 := Tryz.func111.trans (congrArg some (by kernel_rfl))
 f286 := Tryz.func112.trans (congrArg some (by kernel_rfl))
 f287 := Tryz.func147.trans (congrArg some (by kernel_rfl))
 f316 := Tryz.func158.trans (congrArg some (by kernel_rfl))
 f317 := Tryz.func123.trans (congrArg some (by kernel_rfl))
 f318 := Tryz.func125.trans (congrArg some (by kernel_rfl))
 f319 := Tryz.func126.trans (congrArg some (by kernel_rfl))
 f320 := Tryz.func127.trans (congrArg some (by kernel_rfl))
 f321 := Tryz.func156.trans (congrArg some (by kernel_rfl))
 f322 := Tryz.func157.trans (congrArg some (by kernel_rfl))
 f337 := Tryz.func138.trans (congrArg some (by kernel_rfl))
 f338 := Tryz.func139.trans (congrArg some (by kernel_rfl))
 t0 := Tryz.underlying0
 a0 := Tryz.isAgg0
 z0 := Tryz.sizeOf0
 v0 := Tryz.zeroValue0
 t2 := Tryz.underlying2
 a2 := Tryz.isAgg2
 z2 := Tryz.sizeOf2
 v2 := Tryz.zeroValue2
 t3 := Tryz.underlying3
 a3 := Tryz.isAgg3
 z3 := Tryz.sizeOf3
 v3 := Tryz.zeroValue3
 t4 := Tryz.underlying4
 a4 := Tryz.isAgg4
 z4 := Tryz.sizeOf4
 v4 := Tryz.zeroValue4
 t5 := Tryz.underlying5
 a5 := Tryz.isAgg5
 z5 := Tryz.sizeOf5
 v5 := Tryz.zeroValue5
 t9 := Tryz.underlying9
 a9 := Tryz.isAgg9
 z9 := Tryz.sizeOf9
 v9 := Tryz.zeroValue9
 t20 := Tryz.underlying20
 a20 := Tryz.isAgg20
 z20 := Tryz.sizeOf20
 v20 := Tryz.zeroValue20
 t21 := Tryz.underlying21
 a21 := Tryz.isAgg21
 z21 := Tryz.sizeOf21
 v21 := Tryz.zeroValue21
 t37 := Tryz.underlying102
 a37 := Tryz.isAgg102
 z37 := Tryz.sizeOf102
 v37 := Tryz.zeroValue102
 t46 := Tryz.underlying116
 a46 := Tryz.isAgg116
 z46 := Tryz.sizeOf116
 v46 := Tryz.zeroValue116
 t51 := Tryz.underlying176
 a51 := Tryz.isAgg176
 z51 := Tryz.sizeOf176
 v51 := Tryz.zeroValue176
 t53 := Tryz.underlying163
 a53 := Tryz.isAgg163
 z53 := Tryz.sizeOf163
 v53 := Tryz.zeroValue163
 t75 := Tryz.underlying170
 a75 := Tryz.isAgg170
 z75 := Tryz.sizeOf170
 v75 := Tryz.zeroValue170
 t85 := Tryz.underlying171
 a85 := Tryz.isAgg171
 z85 := Tryz.sizeOf171
 v85 := Tryz.zeroValue171
 t127 := Tryz.underlying210
 a127 := Tryz.isAgg210
 z127 := Tryz.sizeOf210
 v127 := Tryz.zeroValue210
 t143 := Tryz.underlying211
 a143 := Tryz.isAgg211
 z143 := Tryz.sizeOf211
 v143 := Tryz.zeroValue211
 t145 := Tryz.underlying213
 a145 := Tryz.isAgg213
 z145 := Tryz.sizeOf213
 v145 := Tryz.zeroValue213
 t167 := Tryz.underlying190
 a167 := Tryz.isAgg190
 z167 := Tryz.sizeOf190
 v167 := Tryz.zeroValue190
 t168 := Tryz.underlying193
 a168 := Tryz.isAgg193
 z168 := Tryz.sizeOf193
 v168 := Tryz.zeroValue193
 t171 := Tryz.underlying162
 a171 := Tryz.isAgg162
 z171 := Tryz.sizeOf162
 v171 := Tryz.zeroValue162
 t173 := Tryz.underlying166
 a173 := Tryz.isAgg166
 z173 := Tryz.sizeOf166
 v173 := Tryz.zeroValue166
 t175 := Tryz.underlying191
 a175 := Tryz.isAgg191
 z175 := Tryz.sizeOf191
 v175 := Tryz.zeroValue191
 t210 := Tryz.underlying204
 a210 := Tryz.isAgg204
 z210 := Tryz.sizeOf204
 v210 := Tryz.zeroValue204
 t212 := Tryz.underlying175
 a212 := Tryz.isAgg175
 z212 := Tryz.sizeOf175
 v212 := Tryz.zeroValue175
 t213 := Tryz.underlying177
 a213 := Tryz.isAgg177
 z213 := Tryz.sizeOf177
 t232 := Tryz.underlying197
 a232 := Tryz.isAgg197
 z232 := Tryz.sizeOf197
 v232 := Tryz.zeroValue197
 t233 := Tryz.underlying198
 a233 := Tryz.isAgg198
 z233 := Tryz.sizeOf198
 v233 := Tryz.zeroValue198
 g15 := by kernel_rfl
 g16 := by kernel_rfl
 g17 := by kernel_rfl
 g18 := by kernel_rfl
 g19 := by kernel_rfl
 t80 := Tryz.underlying214
 a80 := Tryz.isAgg214
 z80 := Tryz.sizeOf214
 v80 := Tryz.zeroValue214
 i0 := by kernel_rfl
 i2 := by kernel_rfl
 i3 := by kernel_rfl
 i4 := by kernel_rfl
 i5 := by kernel_rfl
 i9 := by kernel_rfl
 i20 := by kernel_rfl
 i21 := by kernel_rfl
 i37 := by kernel_rfl
 i46 := by kernel_rfl
 i51 := by kernel_rfl
 i53 := by kernel_rfl
 i75 := by kernel_rfl
 i80 := by kernel_rfl
 i85 := by kernel_rfl
 i127 := by kernel_rfl
 i143 := by kernel_rfl
 i145 := by kernel_rfl
 i167 := by kernel_rfl
 i168 := by kernel_rfl
 i171 := by kernel_rfl
 i173 := by kernel_rfl
 i175 := by kernel_rfl
 i210 := by kernel_rfl
 i212 := by kernel_rfl
 i232 := by kernel_rfl
 i233 := by kernel_rfl
 m15 := by kernel_rfl
 m16 := by kernel_rfl
 m17 := by kernel_rfl
 m18 := by kernel_rfl
 m19 := by kernel_rfl
 c0 := by kernel_rfl
 c2 := by kernel_rfl
 c3 := by kernel_rfl
 c4 := by kernel_rfl
 c5 := by kernel_rfl
 c9 := by kernel_rfl
 c20 := by kernel_rfl
 c21 := by kernel_rfl
 c37 := by kernel_rfl
 c46 := by kernel_rfl
 c51 := by kernel_rfl
 c53 := by kernel_rfl
 c75 := by kernel_rfl
 c80 := by kernel_rfl
 c85 := by kernel_rfl
 c127 := by kernel_rfl
 c143 := by kernel_rfl
 c145 := by kernel_rfl
 c167 := by kernel_rfl
 c168 := by kernel_rfl
 c171 := by kernel_rfl
 c173 := by kernel_rfl
 c175 := by kernel_rfl
 c210 := by kernel_rfl
 c212 := by kernel_rfl
 c213 := by kernel_rfl
 c232 := by kernel_rfl
 c233 := by kernel_rfl }
end Go.Proofs
end

section
/-
 Walks: need; the kinds of documents.
-/
namespace Go.Proofs.Ng
open Go.RowKit
/-- The panic of a malformed line. -/
def malP : Ending := .panicked [{ v := .iface 133 (.agg #[]), recovered := false }]
theorem need66 (b : Bool) (w : World) : Calls Tryz.prog 45 #[.bool b] w (fun e w' => e = (if b = true then .returned (.tuple #[]) else malP) ∧ w' = w) := by
 cases b with
 | true =>
  go_enter Tryz.func45, Tryz.ntmps45
  go_wp2_with fail
  refine bodyPost_end (v := .tuple #[]) (by simp [results, Tryz.results45, go_sem]) rfl ?_
  exact ⟨rfl, rfl⟩
 | false =>
  go_enter Tryz.func45, Tryz.ntmps45
  go_wp2_with fail
  exact ⟨rfl, rfl, rfl⟩
theorem prefix27 (s p : ByteArray) (w : World) : Calls Tryz.prog 49 #[.string s, .string p] w (fun e w' => e = .returned (.bool (Lib.hasPrefix s.data.toList p.data.toList)) ∧ w' = w) :=
 Any.strings_HasPrefix Tryz.prefixL s p w
/-- The kind of a document. -/
def kindN (s : List UInt8) : Nat := if Lib.hasPrefix s [112, 97, 116, 104, 32] = true then 1 else if Lib.hasPrefix s [99, 117, 116, 32] = true then 2 else if Lib.hasPrefix s [116, 114, 97, 106, 101, 99, 116, 111, 114, 121, 32] = true then 3 else 0
set_option maxRecDepth 100000 in
set_option maxHeartbeats 2000000 in
theorem kind11 (s : ByteArray) (w : World) : Calls Tryz.prog 17 #[.string s] w (fun e w' => e = .returned (.int .i64 (kindN s.data.toList : Nat)) ∧ w' = w) := by
 have h1 := Lib.hid (prefix27 s ⟨#[112, 97, 116, 104, 32]⟩ w)
 have h2 := Lib.hid (prefix27 s ⟨#[99, 117, 116, 32]⟩ w)
 have h3 := Lib.hid (prefix27 s ⟨#[116, 114, 97, 106, 101, 99, 116, 111, 114, 121, 32]⟩ w)
 unfold kindN
 cases e1 : Lib.hasPrefix s.data.toList [112, 97, 116, 104, 32] with
 | true =>
  go_enter Tryz.func17, Tryz.ntmps17
  go_wp2_with fail
  refine h1.out.mono ?_
  rintro e W ⟨rfl, rfl⟩
  rw [e1]
  go_wp2_with fail
  go_ret
  exact ⟨rfl, rfl⟩
 | false =>
  cases e2 : Lib.hasPrefix s.data.toList [99, 117, 116, 32] with
  | true =>
   go_enter Tryz.func17, Tryz.ntmps17
   go_wp2_with fail
   refine h1.out.mono ?_
   rintro e W ⟨rfl, hw⟩
   subst hw
   rw [e1]
   go_wp2_with fail
   refine h2.out.mono ?_
   rintro e W ⟨rfl, hw⟩
   subst hw
   rw [e2]
   go_wp2_with fail
   go_ret
   exact ⟨rfl, rfl⟩
  | false =>
   go_enter Tryz.func17, Tryz.ntmps17
   go_wp2_with fail
   refine h1.out.mono ?_
   rintro e W ⟨rfl, hw⟩
   subst hw
   rw [e1]
   go_wp2_with fail
   refine h2.out.mono ?_
   rintro e W ⟨rfl, hw⟩
   subst hw
   rw [e2]
   go_wp2_with fail
   refine h3.out.mono ?_
   rintro e W ⟨rfl, hw⟩
   subst hw
   cases e3 : Lib.hasPrefix s.data.toList [116, 114, 97, 106, 101, 99, 116, 111, 114, 121, 32] with
   | true =>
    go_wp2_with fail
    go_ret
    exact ⟨rfl, rfl⟩
   | false =>
    go_wp2_with fail
    go_ret
    exact ⟨rfl, rfl⟩
end Go.Proofs.Ng
end

