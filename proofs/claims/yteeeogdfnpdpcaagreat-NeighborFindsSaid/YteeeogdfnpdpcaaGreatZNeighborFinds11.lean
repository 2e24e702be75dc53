/-
  Texts put together: Ba.
-/
import Derived.WalkKit
import Derived.IntWalk
import Derived.Lib.Hide
import Derived.BigQuiet
import Derived.Outline
import Derived.OwnWalk
import Derived.BigRegion
import Derived.StillTailTactics
import Derived.Deep.RegionHeld3
import Derived.Deep.DeepCutAuto
import Derived.Deep.CutBlock
import Derived.Deep.AppendLies
import Derived.Deep.RegionLaw
import Derived.Test.YteeeogdfnpdpcaaGreatProg
set_option linter.unusedVariables false
namespace Go.Proofs.Ng
open Go.RowKit
theorem ret_int {k : IntKind} {a b : Int} (h : a = b) : Ending.returned (.int k a) = .returned (.int k b) := by rw [h]
theorem ret_bool {a b : Bool} (h : a = b) : Ending.returned (.bool a) = .returned (.bool b) := by rw [h]
theorem tmod_neg (n k : Int) (h3 : 0 < k) (hn : n.tmod k < 0) : n.tmod k + k = n % k ∧ -k < n.tmod k := by
  have h1 : 0 ≤ n ∨ n < 0 := by omega
  rcases h1 with h1 | h1
  · rw [Int.tmod_eq_emod_of_nonneg h1] at hn
    have := Int.emod_nonneg n (show k ≠ 0 by omega)
    omega
  · have e : n.tmod k = -((-n) % k) := by
      have := Int.neg_tmod (-n) k
      rw [Int.neg_neg] at this
      rw [this, Int.tmod_eq_emod_of_nonneg (by omega)]
    have hlt := Int.emod_lt_of_pos (-n) h3
    have hge := Int.emod_nonneg (-n) (show k ≠ 0 by omega)
    rw [e]
    refine ⟨?_, by omega⟩
    have h5 := Int.mul_ediv_add_emod (-n) k
    have h6 : n = k * (-((-n) / k) - 1) + (k - (-n) % k) := by
      rw [Int.mul_sub, Int.mul_neg]; omega
    have h7 : n % k = (k - (-n) % k) % k := by
      rw [h6, Int.mul_add_emod_self_left]
      have : (k * (-((-n) / k) - 1) + (k - (-n) % k)) = n := h6.symm
      rw [this]
    have h8 := Int.emod_eq_of_lt (a := k - (-n) % k) (b := k) (by omega) (by omega)
    omega
theorem tmod_nn (n k : Int) (h3 : 0 < k) (hn : 0 ≤ n.tmod k) : n.tmod k = n % k := by
  have h1 : 0 ≤ n ∨ n < 0 := by omega
  rcases h1 with h1 | h1
  · exact Int.tmod_eq_emod_of_nonneg h1
  · have e : n.tmod k = -((-n) % k) := by
      have := Int.neg_tmod (-n) k
      rw [Int.neg_neg] at this
      rw [this, Int.tmod_eq_emod_of_nonneg (by omega)]
    have hge := Int.emod_nonneg (-n) (show k ≠ 0 by omega)
    have h0 : (-n) % k = 0 := by omega
    rw [e, h0]
    have : k ∣ n := (Int.dvd_neg).1 (Int.dvd_of_emod_eq_zero h0)
    rw [Int.emod_eq_zero_of_dvd this]; rfl
theorem below_call {w W w1 : World} (h : Below w.heap.size w W) (hb : Below W.heap.size W w1) : Below w.heap.size w w1 := h.trans (hb.mono h.size)
/-- A pair of cells. -/
structure Cells2 (W : World) (b : Nat) (x y : Value) : Prop where
  c0 : W.cell? ⟨b, 0, none⟩ = some x
  c1 : W.cell? ⟨b, 1, none⟩ = some y
  f0 : W.frozen? ⟨b, 0, none⟩ = false
  f1 : W.frozen? ⟨b, 1, none⟩ = false
  lt : b < W.heap.size
theorem Cells2.keep {W W' : World} {b : Nat} {x y : Value} (h : Cells2 W b x y) (hb : Below W.heap.size W W') : Cells2 W' b x y :=
  ⟨(hb.cell (p := ⟨b, 0, none⟩) h.lt).trans h.c0, (hb.cell (p := ⟨b, 1, none⟩) h.lt).trans h.c1, (hb.frozen (p := ⟨b, 0, none⟩) h.lt).trans h.f0, (hb.frozen (p := ⟨b, 1, none⟩) h.lt).trans h.f1, Nat.lt_of_lt_of_le h.lt hb.size⟩
theorem Cells2.new (W : World) (x y : Value) (t : TypeId) : Cells2 (W.alloc (.cells #[x, y] t)) W.heap.size x y :=
  ⟨by simp, by simp, by simp, by simp, by simp⟩
theorem Cells2.al {W : World} {b : Nat} {x y : Value} (h : Cells2 W b x y) (o : Obj) : Cells2 (W.alloc o) b x y := h.keep ((Below.refl _ _).alloc (Nat.le_refl _) _)
theorem Cells2.new' (W : World) (n : Nat) (x y : Value) (t : TypeId) (hn : n = W.heap.size) : Cells2 (W.alloc (.cells #[x, y] t)) n x y := by subst hn; exact Cells2.new W x y t
theorem Cells2.other {W : World} {b b' : Nat} {x y : Value} (h : Cells2 W b x y) (hne : b ≠ b') (o : Nat) (v : Value) : Cells2 (W.setCell ⟨b', o, none⟩ v) b x y := by
  have hb : ∀ k, k ≠ b' → (W.setCell ⟨b', o, none⟩ v).heap[k]? = W.heap[k]? := fun k hk => Below.heap_setCell W ⟨b', o, none⟩ v k hk
  have hB : Below b' W (W.setCell ⟨b', o, none⟩ v) := (Below.refl b' W).setCell (p := ⟨b', o, none⟩) (Nat.le_refl b') v
  refine ⟨?_, ?_, ?_, ?_, Nat.lt_of_lt_of_le h.lt hB.size⟩
  · rw [← h.c0]; simp [World.cell?, hb b hne]
  · rw [← h.c1]; simp [World.cell?, hb b hne]
  · rw [← h.f0]; simp [World.frozen?, hb b hne]
  · rw [← h.f1]; simp [World.frozen?, hb b hne]
theorem Cells2.put {W : World} {b : Nat} {x y : Value} (h : Cells2 W b x y) (x' y' : Value) : Cells2 ((W.setCell ⟨b, 0, none⟩ x').setCell ⟨b, 1, none⟩ y') b x' y' := by
  have h0 := h.c0; have h1 := h.c1; have h2 := h.f0; have h3 := h.f1
  refine ⟨by simp [go_sem, h0], by simp [go_sem, h1], by simp [go_sem, h2], by simp [go_sem, h3], by have := h.lt; simp [World.setCell]; exact this⟩
/-- The first cells of a block. -/
structure Row (W : World) (b : Nat) (l : List Value) : Prop where
  c : ∀ j v, l[j]? = some v → W.cell? ⟨b, j, none⟩ = some v
  lt : b < W.heap.size
theorem Row.keep {W W' : World} {b : Nat} {l : List Value} (h : Row W b l) (hb : Below W.heap.size W W') : Row W' b l :=
  ⟨fun j v hj => (hb.cell (p := ⟨b, j, none⟩) h.lt).trans (h.c j v hj), Nat.lt_of_lt_of_le h.lt hb.size⟩
theorem Row.other {W : World} {b b' : Nat} {l : List Value} (h : Row W b l) (hne : b ≠ b') (o : Nat) (v : Value) : Row (W.setCell ⟨b', o, none⟩ v) b l := by
  have hB : Below b' W (W.setCell ⟨b', o, none⟩ v) := (Below.refl b' W).setCell (p := ⟨b', o, none⟩) (Nat.le_refl b') v
  refine ⟨fun j u hj => ?_, Nat.lt_of_lt_of_le h.lt hB.size⟩
  rw [← h.c j u hj]; simp [World.cell?, Below.heap_setCell W ⟨b', o, none⟩ v b hne]
theorem Row.al {W : World} {b : Nat} {l : List Value} (h : Row W b l) (o : Obj) : Row (W.alloc o) b l := h.keep ((Below.refl _ _).alloc (Nat.le_refl _) _)
theorem Row.new (W : World) (l : List Value) (t : TypeId) : Row (W.alloc (.cells l.toArray t)) W.heap.size l := by
  refine ⟨fun j v hj => ?_, by simp⟩
  have e : (W.alloc (.cells l.toArray t)).heap[W.heap.size]? = some (.cells l.toArray t) := by
    show (W.heap.push (.cells l.toArray t))[W.heap.size]? = _
    exact Array.getElem?_push_size
  exact (cell_of_row _ _ _ _ _ _ e).trans (by simpa using hj)
theorem Cells2.put1 {W : World} {b : Nat} {x y : Value} (h : Cells2 W b x y) (y' : Value) : Cells2 (W.setCell ⟨b, 1, none⟩ y') b x y' := by
  have h0 := h.c0; have h1 := h.c1; have h2 := h.f0; have h3 := h.f1
  refine ⟨by simp [go_sem, h0], by simp [go_sem, h1], by simp [go_sem, h2], by simp [go_sem, h3], by have := h.lt; simp [World.setCell]; exact this⟩
/-- Rows of n cells, one behind another. -/
structure RowsAt (w : World) (b off n : Nat) (l : List (List Value)) : Prop where
  lt : b < w.heap.size
  c : ∀ i r, l[i]? = some r → ∀ k v, r[k]? = some v → w.cell? ⟨b, off + (i * n + k), none⟩ = some v
theorem RowsAt.keep {w w' : World} {b off n : Nat} {l : List (List Value)} (h : RowsAt w b off n l) (hb : Below w.heap.size w w') : RowsAt w' b off n l :=
  ⟨Nat.lt_of_lt_of_le h.lt hb.size, fun i r hi k v hv => (hb.cell (p := ⟨b, off + (i * n + k), none⟩) h.lt).trans (h.c i r hi k v hv)⟩
/-- A slice (its pointer) over these rows: nil only where there is none. -/
def Sl (w : World) (oa : Option Addr) (n : Nat) (rows : List (List Value)) : Prop := rows ≠ [] → ∃ b off, oa = some ⟨b, off, none⟩ ∧ RowsAt w b off n rows
theorem Sl.keep {w w' : World} {oa : Option Addr} {n : Nat} {rows : List (List Value)} (h : Sl w oa n rows) (hb : Below w.heap.size w w') : Sl w' oa n rows := by
  intro h0
  obtain ⟨b, off, e, h1⟩ := h h0
  exact ⟨b, off, e, h1.keep hb⟩
theorem below_drew (W : World) (n : Nat) : Below W.heap.size W (W.drewN n) := ⟨rfl, rfl, rfl, Nat.le_refl _, fun _ _ => rfl⟩
def pvals (ps : List Int) : List (List Value) := ps.map fun p => [.int .i64 p]
theorem pvals_get {ps : List Int} {k : Nat} {p : Int} (h : ps[k]? = some p) : (pvals ps)[k]? = some [.int .i64 p] := by simp [pvals, h]
theorem pvals_ne {ps : List Int} {k : Nat} (h : k < ps.length) : pvals ps ≠ [] := by
  intro h0; unfold pvals at h0; rw [List.map_eq_nil_iff] at h0; rw [h0] at h; simp at h
theorem own_keep {W W' : World} {base : Nat} {e : TypeId} {size n : Nat} {v : Value} {xs : List Value} (h : W.ownsRow base e size v n xs) (hb : Below W.heap.size W W') : W'.ownsRow base e size v n xs := by
  refine ⟨h.1, ?_⟩
  rcases h.2 with h0 | ⟨g, cap, cur, hv, hbg, hg, rest⟩
  · exact .inl h0
  · have hlt : g < W.heap.size := by
      rcases Nat.lt_or_ge g W.heap.size with h | h
      · exact h
      · rw [Array.getElem?_eq_none h] at hg; cases hg
    exact .inr ⟨g, cap, cur, hv, hbg, (hb.block g hlt).trans hg, rest⟩
theorem grown_below {W W' : World} {base : Nat} {e : TypeId} {size n : Nat} {v : Value} {xs : List Value} (h : W.ownsRow base e size v n xs) (hg : W.grownBy W' v.ownBlock) (hb : base ≤ W.heap.size) : Below base W W' := by
  refine ⟨hg.os, hg.tape, hg.output, hg.size, fun k hk => hg.block k (by omega) fun e => ?_⟩
  have := (World.ownsRow.lt h) k e.symm
  omega
theorem Row.low {W W' : World} {b base : Nat} {l : List Value} (h : Row W b l) (hlt : b < base) (hb : Below base W W') : Row W' b l := by
  refine ⟨fun j v hj => ?_, Nat.lt_of_lt_of_le h.lt hb.size⟩
  rw [← h.c j v hj]
  simp [World.cell?, hb.block b hlt]
/-- An owned row is kept where its block is. -/
theorem own_blk {W W' : World} {base : Nat} {e : TypeId} {size n : Nat} {v : Value} {xs : List Value} (h : W.ownsRow base e size v n xs) (hb : ∀ g, v.ownBlock = some g → g < W.heap.size → base ≤ g → W'.heap[g]? = W.heap[g]?) : W'.ownsRow base e size v n xs := by
  refine ⟨h.1, ?_⟩
  rcases h.2 with h0 | ⟨g, cap, cur, hv, hbg, hg, rest⟩
  · exact .inl h0
  · have hlt : g < W.heap.size := by
      rcases Nat.lt_or_ge g W.heap.size with h | h
      · exact h
      · rw [Array.getElem?_eq_none h] at hg; cases hg
    exact .inr ⟨g, cap, cur, hv, hbg, (hb g (by rw [hv]; rfl) hlt hbg).trans hg, rest⟩
theorem own_lt {W : World} {base : Nat} {e : TypeId} {size n : Nat} {v : Value} {xs : List Value} (h : W.ownsRow base e size v n xs) (g : Nat) (hg : v.ownBlock = some g) : g < W.heap.size ∧ base ≤ g := by
  rcases h.2 with ⟨rfl, _⟩ | ⟨g', cap, cur, rfl, hbg, hh, rest⟩
  · cases hg
  · simp [Value.ownBlock] at hg
    subst hg
    refine ⟨?_, hbg⟩
    rcases Nat.lt_or_ge g' W.heap.size with h | h
    · exact h
    · rw [Array.getElem?_eq_none h] at hh; cases hh
theorem own_base {W : World} {base base' : Nat} {e : TypeId} {size n : Nat} {v : Value} {xs : List Value} (h : W.ownsRow base e size v n xs) (hb : base' ≤ base) : W.ownsRow base' e size v n xs := by
  refine ⟨h.1, ?_⟩
  rcases h.2 with h0 | ⟨g, cap, cur, hv, hbg, rest⟩
  · exact .inl h0
  · exact .inr ⟨g, cap, cur, hv, by omega, rest⟩
theorem flat_get (rows : List (List Value)) (n : Nat) (hn : ∀ r ∈ rows, r.length = n) (i : Nat) (r : List Value) (h : rows[i]? = some r) (k : Nat) (v : Value) (hv : r[k]? = some v) : rows.flatten[i * n + k]? = some v := by
  induction rows generalizing i with
  | nil => simp at h
  | cons a t ih =>
    have ha : a.length = n := hn a (by simp)
    have hk : k < n := by
      have hr : r.length = n := hn r (List.mem_of_getElem? h)
      rcases Nat.lt_or_ge k r.length with h' | h'
      · omega
      · rw [List.getElem?_eq_none h'] at hv; cases hv
    cases i with
    | zero =>
      simp at h; subst h
      rw [List.flatten_cons, List.getElem?_append_left (by omega)]
      simpa using hv
    | succ i =>
      simp at h
      have := ih (fun r hr => hn r (by simp [hr])) i h
      rw [List.flatten_cons, List.getElem?_append_right (by rw [ha, Nat.succ_mul]; omega), ha]
      have e : (i + 1) * n + k - n = i * n + k := by rw [Nat.succ_mul]; omega
      rw [e]
      exact this
/-- An owned row reads as its rows. -/
theorem own_rows {W : World} {base : Nat} {e : TypeId} {n : Nat} {v : Value} {rows : List (List Value)} (hn : ∀ r ∈ rows, r.length = n) (h : W.ownsRow base e n v rows.length rows.flatten) : ∃ oa cap, v = .slice oa rows.length cap ∧ Sl W oa n rows := by
  rcases h.2 with ⟨rfl, h0⟩ | ⟨g, cap, cur, rfl, hbg, hg, hc, hm, hs, ht⟩
  · have : rows = [] := List.length_eq_zero_iff.1 h0
    subst this
    exact ⟨none, 0, rfl, fun h => absurd rfl h⟩
  · refine ⟨_, cap, rfl, fun _ => ⟨g, 0, rfl, ?_⟩⟩
    have hlt : g < W.heap.size := by
      rcases Nat.lt_or_ge g W.heap.size with h | h
      · exact h
      · rw [Array.getElem?_eq_none h] at hg; cases hg
    refine ⟨hlt, fun i r hi k u hu => ?_⟩
    have hq := flat_get rows n hn i r hi k u hu
    rw [← ht, List.getElem?_take] at hq
    split at hq
    · simp [World.cell?, hg]
      simpa using hq
    · cases hq
theorem grown_low {w W W' : World} {r : Option Nat} (h : w.grownBy W r) (hb : Below w.heap.size W W') : w.grownBy W' r :=
  ⟨hb.os.trans h.os, hb.tape.trans h.tape, hb.output.trans h.output, Nat.le_trans h.size hb.size, fun k hk hn => (hb.block k hk).trans (h.block k hk hn)⟩
/-- A block whose first cells are these, none frozen. -/
structure Blk (W : World) (b : Nat) (l : List Value) : Prop where
  c : ∀ i v, l[i]? = some v → W.cell? ⟨b, i, none⟩ = some v
  f : ∀ i, W.frozen? ⟨b, i, none⟩ = false
  lt : b < W.heap.size
theorem Blk.new (W : World) (l : List Value) (t : TypeId) : Blk (W.alloc (.cells l.toArray t)) W.heap.size l := by
  refine ⟨fun j v hj => ?_, fun i => ?_, by simp⟩
  · exact (Row.new W l t).c j v hj
  · simp
theorem Blk.keep {W W' : World} {b : Nat} {l : List Value} (h : Blk W b l) (hb : Below W.heap.size W W') : Blk W' b l := by
  have e := hb.block b h.lt
  refine ⟨fun i v hi => ?_, fun i => ?_, Nat.lt_of_lt_of_le h.lt hb.size⟩
  · rw [← h.c i v hi]; simp [World.cell?, e]
  · rw [← h.f i]; simp [World.frozen?, e]
theorem Blk.keepG {W W' : World} {b nS : Nat} {l : List Value} (h : Blk W b l) (hg : W.grownBy W' (some nS)) (hne : b ≠ nS) : Blk W' b l := by
  have e := hg.block b h.lt (fun e => hne (by injection e))
  refine ⟨fun i v hi => ?_, fun i => ?_, Nat.lt_of_lt_of_le h.lt hg.size⟩
  · rw [← h.c i v hi]; simp [World.cell?, e]
  · rw [← h.f i]; simp [World.frozen?, e]
theorem Blk.put {W : World} {b : Nat} {l : List Value} (h : Blk W b l) (i : Nat) (v : Value) : Blk (W.setCell ⟨b, i, none⟩ v) b (l.set i v) := by
  refine ⟨fun j u hj => ?_, fun j => ?_, by have := h.lt; simp [World.setCell]; exact this⟩
  · rw [List.getElem?_set] at hj
    by_cases e : i = j
    · subst e
      simp at hj
      obtain ⟨hl, rfl⟩ := hj
      have := h.c i _ (List.getElem?_eq_getElem hl)
      simp [go_sem, this]
    · rw [if_neg e] at hj
      have := h.c j u hj
      rw [← this]
      simp [go_sem]
  · have := h.f j
    simp [go_sem, this]
theorem Blk.low {W W' : World} {b base : Nat} {l : List Value} (h : Blk W b l) (hlt : b < base) (hb : Below base W W') : Blk W' b l := by
  have e := hb.block b hlt
  refine ⟨fun i v hi => ?_, fun i => ?_, Nat.lt_of_lt_of_le h.lt hb.size⟩
  · rw [← h.c i v hi]; simp [World.cell?, e]
  · rw [← h.f i]; simp [World.frozen?, e]
def pflat (ps : List Int) : List Value := ps.map fun p => .int .i64 p
theorem pvals_flat (ps : List Int) : (pvals ps).flatten = pflat ps := by
  induction ps with
  | nil => rfl
  | cons a t ih => simp only [pvals, pflat, List.map_cons, List.flatten_cons] at ih ⊢; rw [ih]; rfl
theorem pvals_len (ps : List Int) : (pvals ps).length = ps.length := by simp [pvals]
theorem own_fresh {W : World} {base size n cap m : Nat} {e : TypeId} {oa : Option Addr} {xs : List Value} (h : W.ownsRow base e size (.slice oa n cap) m xs) : ∀ a, oa = some a → base ≤ a.block := fun a ha => by
  rcases h.2 with ⟨h1, _⟩ | ⟨g, cap', cur, h1, h2, _⟩
  · injection h1 with h1
    rw [h1] at ha; cases ha
  · injection h1 with h1
    rw [h1] at ha; injection ha with ha; subst ha; exact h2
/-- The cells of a block that was just made. -/
theorem new_cells (W : World) (l : List Value) (t : TypeId) : ∀ (j : Nat) (u : Value), l[j]? = some u → (W.alloc (.cells l.toArray t)).cell? ((⟨W.heap.size, 0, none⟩ : Addr).add j) = some u := by
  intro j u hu
  have := (Row.new W l t).c j u hu
  rw [← this]
  congr 1
  unfold Addr.add
  split <;> simp_all
theorem own_cap {W : World} {base size n cap m : Nat} {e : TypeId} {oa : Option Addr} {xs : List Value} (h : W.ownsRow base e size (.slice oa n cap) m xs) : n ≤ cap ∧ (oa = none → cap = 0) := by
  rcases h.2 with ⟨h1, _⟩ | ⟨g, cap', cur, h1, _, _, h2, _⟩
  · injection h1 with h1 h3 h4
    exact ⟨by omega, fun _ => h4⟩
  · injection h1 with h1 h3 h4
    subst h1 h3 h4
    exact ⟨h2, fun e => by cases e⟩
set_option maxHeartbeats 400000 in
theorem round_any (n k : Int) (w : World) (h3 : 0 < k) (h4 : k ≤ 9223372036854775807) :
    Calls Tryz.prog 11 #[.int .i64 n, .int .i64 k] w fun e w' => e = .returned (.int .i64 (n % k)) ∧ w = w' := by
  have hk : (k == 0) = false := by simp; omega
  by_cases hn : n.tmod k < 0
  · have h5 := tmod_neg n k h3 hn
    have H5 := Lib.hid h5
    clear h5
    go_enter Tryz.func11, Tryz.ntmps11
    go_wp2
    go_ret
    have h6 := H5.out
    exact ⟨ret_int (by rw [IntWalk.wrap64_in _ (by omega)]; exact h6.1), rfl⟩
  · have h5 := tmod_nn n k h3 (by omega)
    have H5 := Lib.hid h5
    clear h5
    go_enter Tryz.func11, Tryz.ntmps11
    go_wp2
    go_ret
    exact ⟨ret_int H5.out, rfl⟩
/-- The source's box. -/
structure Src (W : World) (nS : Nat) (os : Option Addr) (cap : Nat) (xs : List Int) : Prop where
  box : ∃ k : Nat, k ≤ xs.length ∧ Cells2 W nS (.slice os xs.length cap) (.int .i64 k)
  ints : Sl W os 1 (pvals xs)
  off : xs ≠ [] → ∀ b o s, os = some ⟨b, o, s⟩ → b ≠ nS
  len : xs.length ≤ 9223372036854775807
theorem grown_trans {a b c : World} {r : Option Nat} (h : a.grownBy b r) (k : b.grownBy c r) : a.grownBy c r :=
  ⟨k.os.trans h.os, k.tape.trans h.tape, k.output.trans h.output, Nat.le_trans h.size k.size, fun i hi hn => (k.block i (Nat.lt_of_lt_of_le hi h.size) hn).trans (h.block i hi hn)⟩
theorem grown_of_below {a b : World} {r : Option Nat} (h : Below a.heap.size a b) : a.grownBy b r := ⟨h.os, h.tape, h.output, h.size, fun k hk _ => h.block k hk⟩
theorem grown_set (a : World) (n i : Nat) (v : Value) : a.grownBy (a.setCell ⟨n, i, none⟩ v) (some n) :=
  ⟨rfl, rfl, rfl, by simp [World.setCell], fun k _ hn => Below.heap_setCell a ⟨n, i, none⟩ v k (fun e => hn (by rw [e]))⟩
theorem RowsAt.keepG {w w' : World} {b off n nS : Nat} {l : List (List Value)} (h : RowsAt w b off n l) (hg : w.grownBy w' (some nS)) (hne : b ≠ nS) : RowsAt w' b off n l :=
  ⟨Nat.lt_of_lt_of_le h.lt hg.size, fun i r hi k v hv => by
    rw [← h.c i r hi k v hv]
    simp [World.cell?, hg.block b h.lt (fun e => hne (by injection e))]⟩
theorem Src.low {w W W' : World} {nS : Nat} {os : Option Addr} {cap : Nat} {xs : List Int} (h : Src W nS os cap xs) (i0 : Sl w os 1 (pvals xs)) (hn : nS < w.heap.size) (hb : Below w.heap.size W W') : Src W' nS os cap xs := by
  obtain ⟨⟨k, hk, hc⟩, hi, ho, hl⟩ := h
  refine ⟨⟨k, hk, ?_⟩, ?_, ho, hl⟩
  · have e := hb.block nS hn
    obtain ⟨c0, c1, f0, f1, lt⟩ := hc
    refine ⟨?_, ?_, ?_, ?_, Nat.lt_of_lt_of_le lt hb.size⟩
    · rw [← c0]; simp [World.cell?, e]
    · rw [← c1]; simp [World.cell?, e]
    · rw [← f0]; simp [World.frozen?, e]
    · rw [← f1]; simp [World.frozen?, e]
  · intro hne
    obtain ⟨b, off, e1, hr⟩ := hi hne
    obtain ⟨b', off', e1', hr'⟩ := i0 hne
    rw [e1] at e1'
    injection e1' with e1'
    injection e1' with e1' _ _
    have hlt := hr'.lt
    refine ⟨b, off, e1, ⟨Nat.lt_of_lt_of_le hr.lt hb.size, fun i' r hr1 k' v' hv' => ?_⟩⟩
    rw [← hr.c i' r hr1 k' v' hv']
    simp [World.cell?, hb.block b (by omega)]
theorem Src.keepB {W W' : World} {nS : Nat} {os : Option Addr} {cap : Nat} {xs : List Int} (h : Src W nS os cap xs) (hb : Below W.heap.size W W') : Src W' nS os cap xs := by
  obtain ⟨⟨k, hk, hc⟩, hi, ho, hl⟩ := h
  exact ⟨⟨k, hk, hc.keep hb⟩, hi.keep hb, ho, hl⟩
theorem src_lt {W : World} {nS : Nat} {os : Option Addr} {cap : Nat} {xs : List Int} (h : Src W nS os cap xs) : nS < W.heap.size := by
  obtain ⟨⟨k, hk, hc⟩, _⟩ := h
  exact hc.lt
set_option maxRecDepth 100000 in
set_option maxHeartbeats 2000000 in
theorem next_any (W : World) (nS : Nat) (os : Option Addr) (cap : Nat) (xs : List Int) (n : Int) (hS : Src W nS os cap xs) (h1 : 1 ≤ n) (h2 : n ≤ 1000000000000) :
    Calls Tryz.prog 58 #[.pointer (some ⟨nS, 0, none⟩), .int .i64 n] W (fun e W' => ∃ r : Int, 0 ≤ r ∧ r < n ∧ e = .returned (.int .i64 r) ∧ W.grownBy W' (some nS) ∧ Src W' nS os cap xs) := by
  obtain ⟨⟨k, hk, hc⟩, hints, hoff, hlen⟩ := hS
  have k0 := hc.c0; have k1 := hc.c1; have k2 := hc.f0; have k3 := hc.f1; have k4 := hc.lt
  by_cases hlt : k < xs.length
  · have hlt' : decide ((xs.length : Int) ≤ (k : Int)) = false := decide_eq_false (by omega)
    have hlt'' : decide (xs.length ≤ k) = false := decide_eq_false (by omega)
    obtain ⟨x, hx⟩ : ∃ x, xs[k]? = some x := ⟨_, List.getElem?_eq_getElem hlt⟩
    obtain ⟨b, off, rfl, hr⟩ := hints (pvals_ne hlt)
    have hbne := hoff (by intro h; subst h; simp at hlt) b off none rfl
    go_enter Tryz.func58, Tryz.ntmps58
    go_wp2_with fail
    go_quiet (fail)
    have hcV := hc.keep (below_drew W nq)
    have hrV := hr.keep (below_drew W nq)
    have hgV : W.grownBy (W.drewN nq) (some nS) := grown_of_below (below_drew W nq)
    clear k0 k1 k2 k3 k4
    generalize W.drewN nq = V at hcV hrV hgV ⊢
    have k0 := hcV.c0; have k1 := hcV.c1; have k2 := hcV.f0; have k3 := hcV.f1; have k4 := hcV.lt
    go_wp2_with fail
    have hcX : Cells2 (V.setCell ⟨nS, 1, none⟩ (.int .i64 ((k : Int) + 1))) nS (.slice (some ⟨b, off, none⟩) xs.length cap) (.int .i64 ((k : Int) + 1)) := hcV.put1 _
    have hgX := grown_trans hgV (grown_set V nS 1 (.int .i64 ((k : Int) + 1)))
    have hrX := hrV.keepG (grown_set V nS 1 (.int .i64 ((k : Int) + 1))) hbne
    clear k0 k1 k2 k3 k4 hcV hrV hgV
    generalize (V.setCell ⟨nS, 1, none⟩ (.int .i64 ((k : Int) + 1))) = X at hcX hgX hrX ⊢
    have k0 := hcX.c0; have k1 := hcX.c1; have k2 := hcX.f0; have k3 := hcX.f1; have k4 := hcX.lt
    have x0 : X.cell? ⟨b, off + k, none⟩ = some (.int .i64 x) := by have := hrX.c k _ (pvals_get hx) 0 _ rfl; simpa using this
    have hw1 : IntKind.i64.wrap ((k : Int) + 1 - 1) = (k : Int) := by rw [IntWalk.i64_in _ (by omega)]; omega
    have hw2 : IntKind.i64.wrap (k : Int) = (k : Int) := IntWalk.i64_in _ (by omega)
    have HC : Hid (∀ w, Calls Tryz.prog 11 #[.int .i64 x, .int .i64 n] w fun e w' => e = .returned (.int .i64 (x % n)) ∧ w' = w) := Lib.hid (fun w => (round_any x n w (by omega) (by omega)).mono fun _ _ ⟨h, h'⟩ => ⟨h, h'.symm⟩)
    have hr0 : 0 ≤ x % n := Int.emod_nonneg _ (by omega)
    have hr1 : x % n < n := Int.emod_lt_of_pos _ (by omega)
    have HR0 := Lib.hid hr0
    have HR1 := Lib.hid hr1
    clear hr0 hr1
    go_quiet ((go_at_call 11; exact Calls.quiet_of_same (HC.out _)))
    have hcY := hcX.keep (below_drew X nq)
    have hrY := hrX.keep (below_drew X nq)
    have hgY := grown_trans hgX (grown_of_below (below_drew X nq))
    clear k0 k1 k2 k3 k4 x0 hw1 hw2
    generalize X.drewN nq = Y at hcY hrY hgY ⊢
    go_wp2
    go_ret
    exact ⟨x % n, HR0.out, HR1.out, rfl, hgY, ⟨⟨k + 1, by omega, hcY⟩, fun _ => ⟨b, off, rfl, hrY⟩, hoff, hlen⟩⟩
  · have hlt' : decide ((xs.length : Int) ≤ (k : Int)) = true := decide_eq_true (by omega)
    have hlt'' : decide (xs.length ≤ k) = true := decide_eq_true (by omega)
    go_enter Tryz.func58, Tryz.ntmps58
    go_wp2_with fail
    go_quiet (fail)
    have hcV := hc.keep (below_drew W nq)
    have hiV := hints.keep (below_drew W nq)
    have hgV : W.grownBy (W.drewN nq) (some nS) := grown_of_below (below_drew W nq)
    clear k0 k1 k2 k3 k4
    generalize W.drewN nq = V at hcV hiV hgV ⊢
    go_wp2
    go_ret
    exact ⟨0, by omega, by omega, rfl, hgV, ⟨⟨k, hk, hcV⟩, hiV, hoff, hlen⟩⟩
theorem from_any (os : Option Addr) (cap n : Nat) (w : World) : Calls Tryz.prog 57 #[.slice os n cap] w (fun e w' => e = .returned (.pointer (some ⟨w.heap.size, 0, none⟩)) ∧ w' = w.alloc (.cells #[.slice os n cap, .int .i64 0] 107)) := by
  go_enter Tryz.func57, Tryz.ntmps57
  go_wp2
  go_ret
  exact ⟨rfl, rfl⟩
theorem src_new (w : World) (os : Option Addr) (cap : Nat) (xs : List Int) (hI : Sl w os 1 (pvals xs)) (hl : xs.length ≤ 9223372036854775807) : Src (w.alloc (.cells #[.slice os xs.length cap, .int .i64 0] 107)) w.heap.size os cap xs := by
  refine ⟨⟨0, by omega, Cells2.new w _ _ 107⟩, hI.keep ((Below.refl _ _).alloc (Nat.le_refl _) _), ?_, hl⟩
  intro hne b o s e
  obtain ⟨b', off', e', hr⟩ := hI (by intro h; exact hne (by simpa [pvals] using h))
  rw [e] at e'
  injection e' with e'
  injection e' with e' _ _
  have := hr.lt
  omega
end Go.Proofs.Ng
