/-
  Texts put together: La Ea Ec Ce.
-/
import Derived.Shelf.Bits.Mul64
import Derived.Shelf.Small.Bits
import Derived.Test.YtgkihlkhklmgcaaGreatProg
import Derived.WalkKit
import Derived.IntWalk
import Derived.Lib.Hide
import Derived.BigQuiet
import Derived.Outline
import Derived.Laws.Externs
import Derived.KernelRfl
import Derived.Below
set_option linter.unusedVariables false
section
/-
  Contracts of the library, laid at this program in plain words (the form is lay-plain.mjs's).
-/
namespace Go.Proofs
open Go.Shelf
def Tryz.lays264_ren : Go.Shelf.Ren := ⟨fun | 264 => 66 | n => n, fun | 46 => 62 | 53 => 92 | n => n, fun | n => n⟩
theorem Tryz.lays264 : Go.Proofs.Lays.n264 Tryz.prog Tryz.lays264_ren := {
 mixed := by kernel_rfl
 f264 := Tryz.func66.trans (congrArg some (by kernel_rfl))
 t46 := Tryz.underlying62
 a46 := Tryz.isAgg62
 z46 := Tryz.sizeOf62
 v46 := Tryz.zeroValue62
 t53 := Tryz.underlying92
 a53 := Tryz.isAgg92
 z53 := Tryz.sizeOf92
 v53 := Tryz.zeroValue92 }
def Tryz.lays134_ren : Go.Shelf.Ren := ⟨fun | 129 => 93 | 134 => 101 | n => n, fun | 3 => 3 | 4 => 4 | 5 => 5 | 9 => 9 | 46 => 62 | 53 => 92 | n => n, fun | n => n⟩
theorem Tryz.lays134 : Go.Proofs.Lays.n134 Tryz.prog Tryz.lays134_ren := {
 mixed := by kernel_rfl
 f129 := Tryz.func93.trans (congrArg some (by kernel_rfl))
 f134 := Tryz.func101.trans (congrArg some (by kernel_rfl))
 t3 := Tryz.underlying3
 a3 := Tryz.isAgg3
 z3 := Tryz.sizeOf3
 v3 := Tryz.zeroValue3
 t4 := Tryz.underlying4
 a4 := Tryz.isAgg4
 z4 := Tryz.sizeOf4
 v4 := Tryz.zeroValue4
 t5 := Tryz.underlying5
 a5 := Tryz.isAgg5
 z5 := Tryz.sizeOf5
 v5 := Tryz.zeroValue5
 t9 := Tryz.underlying9
 a9 := Tryz.isAgg9
 z9 := Tryz.sizeOf9
 v9 := Tryz.zeroValue9
 t46 := Tryz.underlying62
 a46 := Tryz.isAgg62
 z46 := Tryz.sizeOf62
 v46 := Tryz.zeroValue62
 t53 := Tryz.underlying92
 a53 := Tryz.isAgg92
 z53 := Tryz.sizeOf92
 v53 := Tryz.zeroValue92 }
open Go.RowKit Go.Lib in
theorem Tryz.bits_Mul64 (x y : Nat) (hx : x < 18446744073709551616) (hy : y < 18446744073709551616) (w : World) :
  Calls Tryz.prog 66 #[.int .u64 x, .int .u64 y] w fun e w' => e = .returned (.tuple #[.int .u64 ((x * y / 18446744073709551616 : Nat) : Int), .int .u64 ((x * y % 18446744073709551616 : Nat) : Int)]) ∧ w' = w := Any.bits_Mul64 Tryz.lays264 x y hx hy w
open Go.RowKit Go.Lib in
theorem Tryz.bits_LeadingZeros64 (x : Int) (w : World) (h0 : 0 ≤ x) (h1 : x ≤ 18446744073709551615) :
  Calls Tryz.prog 101 #[.int .u64 x] w fun e w' => e = .returned (.int .i64 (64 - (Lib.bitLen x.toNat : Int))) ∧ w' = w := Any.bits_LeadingZeros64 Tryz.lays134 x w h0 h1
end Go.Proofs
end

section
/-
  Walks: the small functions on numbers.
-/
namespace Go.Proofs.En
open Go.RowKit
theorem ret_int {k : IntKind} {a b : Int} (h : a = b) : Ending.returned (.int k a) = .returned (.int k b) := by rw [h]
theorem ret_bool {a b : Bool} (h : a = b) : Ending.returned (.bool a) = .returned (.bool b) := by rw [h]
theorem tmod_neg (n k : Int) (h3 : 0 < k) (hn : n.tmod k < 0) : n.tmod k + k = n % k ∧ -k < n.tmod k := by
 have h1 : 0 ≤ n ∨ n < 0 := by omega
 rcases h1 with h1 | h1
 ·rw [Int.tmod_eq_emod_of_nonneg h1] at hn
  have := Int.emod_nonneg n (show k ≠ 0 by omega)
  omega
 ·have e : n.tmod k = -((-n) % k) := by
   have := Int.neg_tmod (-n) k
   rw [Int.neg_neg] at this
   rw [this, Int.tmod_eq_emod_of_nonneg (by omega)]
  have hlt := Int.emod_lt_of_pos (-n) h3
  have hge := Int.emod_nonneg (-n) (show k ≠ 0 by omega)
  rw [e]
  refine ⟨?_, by omega⟩
  have h5 := Int.mul_ediv_add_emod (-n) k
  have h6 : n = k * (-((-n) / k) - 1) + (k - (-n) % k) := by
   rw [Int.mul_sub, Int.mul_neg]; omega
  have h7 : n % k = (k - (-n) % k) % k := by
   rw [h6, Int.mul_add_emod_self_left]
   have : (k * (-((-n) / k) - 1) + (k - (-n) % k)) = n := h6.symm
   rw [this]
  have h8 := Int.emod_eq_of_lt (a := k - (-n) % k) (b := k) (by omega) (by omega)
  omega
theorem tmod_nn (n k : Int) (h3 : 0 < k) (hn : 0 ≤ n.tmod k) : n.tmod k = n % k := by
 have h1 : 0 ≤ n ∨ n < 0 := by omega
 rcases h1 with h1 | h1
 ·exact Int.tmod_eq_emod_of_nonneg h1
 ·have e : n.tmod k = -((-n) % k) := by
   have := Int.neg_tmod (-n) k
   rw [Int.neg_neg] at this
   rw [this, Int.tmod_eq_emod_of_nonneg (by omega)]
  have hge := Int.emod_nonneg (-n) (show k ≠ 0 by omega)
  have h0 : (-n) % k = 0 := by omega
  rw [e, h0]
  have : k ∣ n := (Int.dvd_neg).1 (Int.dvd_of_emod_eq_zero h0)
  rw [Int.emod_eq_zero_of_dvd this]; rfl
set_option maxHeartbeats 400000 in
theorem round_any (n k : Int) (w : World) (h3 : 0 < k) (h4 : k ≤ 9223372036854775807) :
  Calls Tryz.prog 8 #[.int .i64 n, .int .i64 k] w fun e w' => e = .returned (.int .i64 (n % k)) ∧ w = w' := by
 have hk : (k == 0) = false := by simp; omega
 by_cases hn : n.tmod k < 0
 ·have h5 := tmod_neg n k h3 hn
  have H5 := Lib.hid h5
  clear h5
  go_enter Tryz.func8, Tryz.ntmps8
  go_wp2
  go_ret
  have h6 := H5.out
  exact ⟨ret_int (by rw [IntWalk.wrap64_in _ (by omega)]; exact h6.1), rfl⟩
 ·have h5 := tmod_nn n k h3 (by omega)
  have H5 := Lib.hid h5
  clear h5
  go_enter Tryz.func8, Tryz.ntmps8
  go_wp2
  go_ret
  exact ⟨ret_int H5.out, rfl⟩
end Go.Proofs.En
end

section
/-
  Walks: sums and products of ranges.
-/
namespace Go.Proofs.En
open Go.RowKit
theorem below_call {w W w1 : World} (h : Below w.heap.size w W) (hb : Below W.heap.size W w1) : Below w.heap.size w w1 := h.trans (hb.mono h.size)
end Go.Proofs.En
end

section
/-
  Cells of blocks that stay.
-/
namespace Go.Proofs.En
open Go.RowKit
/-- A pair of cells. -/
structure Cells2 (W : World) (b : Nat) (x y : Value) : Prop where
 c0 : W.cell? ⟨b, 0, none⟩ = some x
 c1 : W.cell? ⟨b, 1, none⟩ = some y
 f0 : W.frozen? ⟨b, 0, none⟩ = false
 f1 : W.frozen? ⟨b, 1, none⟩ = false
 lt : b < W.heap.size
theorem Cells2.keep {W W' : World} {b : Nat} {x y : Value} (h : Cells2 W b x y) (hb : Below W.heap.size W W') : Cells2 W' b x y :=
 ⟨(hb.cell (p := ⟨b, 0, none⟩) h.lt).trans h.c0, (hb.cell (p := ⟨b, 1, none⟩) h.lt).trans h.c1, (hb.frozen (p := ⟨b, 0, none⟩) h.lt).trans h.f0, (hb.frozen (p := ⟨b, 1, none⟩) h.lt).trans h.f1, Nat.lt_of_lt_of_le h.lt hb.size⟩
theorem Cells2.new (W : World) (x y : Value) (t : TypeId) : Cells2 (W.alloc (.cells #[x, y] t)) W.heap.size x y :=
 ⟨by simp, by simp, by simp, by simp, by simp⟩
theorem Cells2.al {W : World} {b : Nat} {x y : Value} (h : Cells2 W b x y) (o : Obj) : Cells2 (W.alloc o) b x y := h.keep ((Below.refl _ _).alloc (Nat.le_refl _) _)
theorem Cells2.new' (W : World) (n : Nat) (x y : Value) (t : TypeId) (hn : n = W.heap.size) : Cells2 (W.alloc (.cells #[x, y] t)) n x y := by subst hn; exact Cells2.new W x y t
theorem Cells2.other {W : World} {b b' : Nat} {x y : Value} (h : Cells2 W b x y) (hne : b ≠ b') (o : Nat) (v : Value) : Cells2 (W.setCell ⟨b', o, none⟩ v) b x y := by
 have hb : ∀ k, k ≠ b' → (W.setCell ⟨b', o, none⟩ v).heap[k]? = W.heap[k]? := fun k hk => Below.heap_setCell W ⟨b', o, none⟩ v k hk
 have hB : Below b' W (W.setCell ⟨b', o, none⟩ v) := (Below.refl b' W).setCell (p := ⟨b', o, none⟩) (Nat.le_refl b') v
 refine ⟨?_, ?_, ?_, ?_, Nat.lt_of_lt_of_le h.lt hB.size⟩
 ·rw [← h.c0]; simp [World.cell?, hb b hne]
 ·rw [← h.c1]; simp [World.cell?, hb b hne]
 ·rw [← h.f0]; simp [World.frozen?, hb b hne]
 ·rw [← h.f1]; simp [World.frozen?, hb b hne]
theorem Cells2.put {W : World} {b : Nat} {x y : Value} (h : Cells2 W b x y) (x' y' : Value) : Cells2 ((W.setCell ⟨b, 0, none⟩ x').setCell ⟨b, 1, none⟩ y') b x' y' := by
 have h0 := h.c0; have h1 := h.c1; have h2 := h.f0; have h3 := h.f1
 refine ⟨by simp [go_sem, h0], by simp [go_sem, h1], by simp [go_sem, h2], by simp [go_sem, h3], by have := h.lt; simp [World.setCell]; exact this⟩
/-- The first cells of a block. -/
structure Row (W : World) (b : Nat) (l : List Value) : Prop where
 c : ∀ j v, l[j]? = some v → W.cell? ⟨b, j, none⟩ = some v
 lt : b < W.heap.size
theorem Row.keep {W W' : World} {b : Nat} {l : List Value} (h : Row W b l) (hb : Below W.heap.size W W') : Row W' b l :=
 ⟨fun j v hj => (hb.cell (p := ⟨b, j, none⟩) h.lt).trans (h.c j v hj), Nat.lt_of_lt_of_le h.lt hb.size⟩
theorem Row.other {W : World} {b b' : Nat} {l : List Value} (h : Row W b l) (hne : b ≠ b') (o : Nat) (v : Value) : Row (W.setCell ⟨b', o, none⟩ v) b l := by
 have hB : Below b' W (W.setCell ⟨b', o, none⟩ v) := (Below.refl b' W).setCell (p := ⟨b', o, none⟩) (Nat.le_refl b') v
 refine ⟨fun j u hj => ?_, Nat.lt_of_lt_of_le h.lt hB.size⟩
 rw [← h.c j u hj]; simp [World.cell?, Below.heap_setCell W ⟨b', o, none⟩ v b hne]
theorem Row.al {W : World} {b : Nat} {l : List Value} (h : Row W b l) (o : Obj) : Row (W.alloc o) b l := h.keep ((Below.refl _ _).alloc (Nat.le_refl _) _)
theorem Row.new (W : World) (l : List Value) (t : TypeId) : Row (W.alloc (.cells l.toArray t)) W.heap.size l := by
 refine ⟨fun j v hj => ?_, by simp⟩
 have e : (W.alloc (.cells l.toArray t)).heap[W.heap.size]? = some (.cells l.toArray t) := by
  show (W.heap.push (.cells l.toArray t))[W.heap.size]? = _
  exact Array.getElem?_push_size
 exact (cell_of_row _ _ _ _ _ _ e).trans (by simpa using hj)
end Go.Proofs.En
end

