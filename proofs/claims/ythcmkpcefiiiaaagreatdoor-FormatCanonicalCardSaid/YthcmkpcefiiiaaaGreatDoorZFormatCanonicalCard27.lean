/-
  Texts put together: Tt.
-/
import Derived.Test.YthcmkpcefiiiaaaGreatDoorZFormatCanonicalCard25
import Derived.Test.YthcmkpcefiiiaaaGreatDoorZFormatCanonicalCard26
set_option linter.unusedVariables false
/-
 Walks: the reader's cell. Printed by gen_tt.py.
-/
namespace Go.Proofs.Ng
open Go.RowKit
structure Cl3K (b n2 g off cap3 : Nat) (j l hh : Int) (W3 : World) (L : Nat → Bool) (v15 v16 v17 v18 v19 v20 v21 v22 v23 v24 v4 : Value) (w : World) : Prop where
 wf : Below W3.heap.size W3 w
 f0 : L 0 = true → v15 = .slice (some ⟨g, off, none⟩) 3 cap3
 f1 : L 1 = true → v16 = .pointer (some ⟨g, off, none⟩)
 f2 : L 2 = true → v17 = .int .i64 j
 f3 : L 3 = true → v18 = .slice (some ⟨g, off, none⟩) 3 cap3
 f4 : L 4 = true → v19 = .pointer (some ⟨g, off + 1, none⟩)
 f5 : L 5 = true → v20 = .int .i64 l
 f6 : L 6 = true → v21 = .slice (some ⟨g, off, none⟩) 3 cap3
 f7 : L 7 = true → v22 = .pointer (some ⟨g, off + 2, none⟩)
 f8 : L 8 = true → v23 = .int .i64 hh
 f9 : L 9 = true → v24 = .agg #[.int .i64 j, .int .i64 l, .int .i64 hh, .int .i64 0, .slice none 0 0, .int .i64 0, .slice none 0 0, .slice none 0 0]
 f10 : L 10 = true → L 11 = false → ∃ n, v4 = .pointer (some ⟨n, 0, none⟩) ∧ Bx w n [.int .i64 0, .int .i64 0, .int .i64 0, .int .i64 0, .slice none 0 0, .int .i64 0, .slice none 0 0, .slice none 0 0] 85 ∧ W3.heap.size ≤ n
 f11 : L 11 = true → L 10 = true ∧ ∃ n, v4 = .pointer (some ⟨n, 0, none⟩) ∧ Bx w n [.int .i64 j, .int .i64 l, .int .i64 hh, .int .i64 0, .slice none 0 0, .int .i64 0, .slice none 0 0, .slice none 0 0] 85 ∧ W3.heap.size ≤ n
structure Cl7K (b n2 g off cap3 : Nat) (kk nn : Int) (q : List (List UInt8)) (tl : List UInt8) (W3 : World) (L : Nat → Bool) (v33 v34 v35 v36 v37 v38 v39 v40 v41 v42 v6 : Value) (w : World) : Prop where
 wf : W3.grownBy w (some b) ∧ (L 8 = false → RdS w b q tl) ∧ LibW w ∧ (L 10 = false → v6 = undef)
 f0 : L 0 = true → v33 = .slice (some ⟨g, off, none⟩) 2 cap3
 f1 : L 1 = true → v34 = .pointer (some ⟨g, off, none⟩)
 f2 : L 2 = true → v35 = .int .i64 kk
 f3 : L 3 = true → v36 = .pointer (some ⟨b, 0, none⟩)
 f4 : L 4 = true → v37 = .slice (some ⟨g, off, none⟩) 2 cap3
 f5 : L 5 = true → v38 = .pointer (some ⟨g, off + 1, none⟩)
 f6 : L 6 = true → v39 = .int .i64 nn
 f7 : L 7 = true → Fm.cntOk nn = true ∧ v40 = .int .i64 nn
 f8 : L 8 = true → L 7 = true ∧ ∃ (nv : List (Int × Int × Int)) (q2 : List (List UInt8)) (on : Option Addr) (cn : Nat), Fm.rep Fm.rdNormal nn.toNat q = some (nv, q2) ∧ v41 = .slice on nv.length cn ∧ Fp (fun k => W3.heap.size ≤ k ∧ k < w.heap.size ∧ v6 ≠ .pointer (some ⟨k, 0, none⟩)) w (fun X => Sl X on 3 (vecsV nv)) ∧ RdS w b q2 tl
 f9 : L 9 = true → L 8 = true ∧ v42 = .agg #[.int .i64 kk, v41, .int .i64 0, .slice none 0 0, .slice none 0 0]
 f10 : L 10 = true → L 11 = false → ∃ n, v6 = .pointer (some ⟨n, 0, none⟩) ∧ Bx w n [.int .i64 0, .slice none 0 0, .int .i64 0, .slice none 0 0, .slice none 0 0] 83 ∧ W3.heap.size ≤ n
 f11 : L 11 = true → L 9 = true ∧ L 10 = true ∧ ∃ n, v6 = .pointer (some ⟨n, 0, none⟩) ∧ Bx w n [.int .i64 kk, v41, .int .i64 0, .slice none 0 0, .slice none 0 0] 83 ∧ W3.heap.size ≤ n ∧ n < w.heap.size
set_option maxRecDepth 100000 in
set_option maxHeartbeats 2000000 in
theorem leaf84 (c : Fm.CellD) (on ol or : Option Addr) (cn cl cr : Nat) (w : World) : Calls Tryz.prog 84 #[.agg #[.int .i64 c.joint, .int .i64 c.low, .int .i64 c.high, .int .i64 c.verd.kind, .slice on c.verd.normals.length cn, .int .i64 c.verd.pair, .slice ol c.verd.left.length cl, .slice or c.verd.right.length cr]] w (BoolP (Fm.leafB c) w) := by
 go_enter Tryz.func84, Tryz.ntmps84
 go_wp2
 all_goals go_ret
 all_goals refine boolP_mk ?_ ((Below.refl _ _).alloc (Nat.le_refl _) _)
 all_goals (first | exact b_no (by omega) | exact b_yes (by omega) | exact b_iff (by omega))
def CelV (v : Value) (c : Fm.CellD) (W : World) : Prop := ∃ on ol orr cn cl cr, v = .agg #[.int .i64 c.joint, .int .i64 c.low, .int .i64 c.high, .int .i64 c.verd.kind, .slice on c.verd.normals.length cn, .int .i64 c.verd.pair, .slice ol c.verd.left.length cl, .slice orr c.verd.right.length cr] ∧ VerdAt W c.verd on ol orr
theorem set8_blk (w : World) (n : Nat) (a0 a1 a2 a3 a4 a5 a6 a7 : Value) : ∀ k, k ≠ n → ((((((((w.setCell ⟨n, 0, none⟩ a0).setCell ⟨n, 1, none⟩ a1).setCell ⟨n, 2, none⟩ a2).setCell ⟨n, 3, none⟩ a3).setCell ⟨n, 4, none⟩ a4).setCell ⟨n, 5, none⟩ a5).setCell ⟨n, 6, none⟩ a6).setCell ⟨n, 7, none⟩ a7).heap[k]? = w.heap[k]? := fun k hk => by
 rw [Below.heap_setCell _ ⟨n, 7, none⟩ _ k hk, Below.heap_setCell _ ⟨n, 6, none⟩ _ k hk, Below.heap_setCell _ ⟨n, 5, none⟩ _ k hk, Below.heap_setCell _ ⟨n, 4, none⟩ _ k hk, Below.heap_setCell _ ⟨n, 3, none⟩ _ k hk, Below.heap_setCell _ ⟨n, 2, none⟩ _ k hk, Below.heap_setCell _ ⟨n, 1, none⟩ _ k hk, Below.heap_setCell _ ⟨n, 0, none⟩ _ k hk]
theorem set8_size (w : World) (n : Nat) (a0 a1 a2 a3 a4 a5 a6 a7 : Value) : ((((((((w.setCell ⟨n, 0, none⟩ a0).setCell ⟨n, 1, none⟩ a1).setCell ⟨n, 2, none⟩ a2).setCell ⟨n, 3, none⟩ a3).setCell ⟨n, 4, none⟩ a4).setCell ⟨n, 5, none⟩ a5).setCell ⟨n, 6, none⟩ a6).setCell ⟨n, 7, none⟩ a7).heap.size = w.heap.size := by simp [World.setCell]
theorem set8_below (w : World) (n B : Nat) (h : B ≤ n) (a0 a1 a2 a3 a4 a5 a6 a7 : Value) : Below B w ((((((((w.setCell ⟨n, 0, none⟩ a0).setCell ⟨n, 1, none⟩ a1).setCell ⟨n, 2, none⟩ a2).setCell ⟨n, 3, none⟩ a3).setCell ⟨n, 4, none⟩ a4).setCell ⟨n, 5, none⟩ a5).setCell ⟨n, 6, none⟩ a6).setCell ⟨n, 7, none⟩ a7) := (((((((((Below.refl _ _).setCell (p := ⟨n, 0, none⟩) h _).setCell (p := ⟨n, 1, none⟩) h _).setCell (p := ⟨n, 2, none⟩) h _).setCell (p := ⟨n, 3, none⟩) h _).setCell (p := ⟨n, 4, none⟩) h _).setCell (p := ⟨n, 5, none⟩) h _).setCell (p := ⟨n, 6, none⟩) h _).setCell (p := ⟨n, 7, none⟩) h _)
theorem st8 {w : World} {n : Nat} {c0 c1 c2 c3 c4 c5 c6 c7 : Value} {ty : TypeId} (h : Bx w n [c0, c1, c2, c3, c4, c5, c6, c7] ty) (a0 a1 a2 a3 a4 a5 a6 a7 : Value) : Bx ((((((((w.setCell ⟨n, 0, none⟩ a0).setCell ⟨n, 1, none⟩ a1).setCell ⟨n, 2, none⟩ a2).setCell ⟨n, 3, none⟩ a3).setCell ⟨n, 4, none⟩ a4).setCell ⟨n, 5, none⟩ a5).setCell ⟨n, 6, none⟩ a6).setCell ⟨n, 7, none⟩ a7) n [a0, a1, a2, a3, a4, a5, a6, a7] ty := ((((((((h.putAt 0 a0).putAt 1 a1).putAt 2 a2).putAt 3 a3).putAt 4 a4).putAt 5 a5).putAt 6 a6).putAt 7 a7)
theorem facts8 {w : World} {n : Nat} {c0 c1 c2 c3 c4 c5 c6 c7 : Value} {ty : TypeId} (h : Bx w n [c0, c1, c2, c3, c4, c5, c6, c7] ty) (a0 a1 a2 a3 a4 a5 a6 : Value) : w.cell? ⟨n, 0, none⟩ = some c0 ∧ w.frozen? ⟨n, 0, none⟩ = false ∧ (w.setCell ⟨n, 0, none⟩ a0).cell? ⟨n, 1, none⟩ = some c1 ∧ (w.setCell ⟨n, 0, none⟩ a0).frozen? ⟨n, 1, none⟩ = false ∧ ((w.setCell ⟨n, 0, none⟩ a0).setCell ⟨n, 1, none⟩ a1).cell? ⟨n, 2, none⟩ = some c2 ∧ ((w.setCell ⟨n, 0, none⟩ a0).setCell ⟨n, 1, none⟩ a1).frozen? ⟨n, 2, none⟩ = false ∧ (((w.setCell ⟨n, 0, none⟩ a0).setCell ⟨n, 1, none⟩ a1).setCell ⟨n, 2, none⟩ a2).cell? ⟨n, 3, none⟩ = some c3 ∧ (((w.setCell ⟨n, 0, none⟩ a0).setCell ⟨n, 1, none⟩ a1).setCell ⟨n, 2, none⟩ a2).frozen? ⟨n, 3, none⟩ = false ∧ ((((w.setCell ⟨n, 0, none⟩ a0).setCell ⟨n, 1, none⟩ a1).setCell ⟨n, 2, none⟩ a2).setCell ⟨n, 3, none⟩ a3).cell? ⟨n, 4, none⟩ = some c4 ∧ ((((w.setCell ⟨n, 0, none⟩ a0).setCell ⟨n, 1, none⟩ a1).setCell ⟨n, 2, none⟩ a2).setCell ⟨n, 3, none⟩ a3).frozen? ⟨n, 4, none⟩ = false ∧ (((((w.setCell ⟨n, 0, none⟩ a0).setCell ⟨n, 1, none⟩ a1).setCell ⟨n, 2, none⟩ a2).setCell ⟨n, 3, none⟩ a3).setCell ⟨n, 4, none⟩ a4).cell? ⟨n, 5, none⟩ = some c5 ∧ (((((w.setCell ⟨n, 0, none⟩ a0).setCell ⟨n, 1, none⟩ a1).setCell ⟨n, 2, none⟩ a2).setCell ⟨n, 3, none⟩ a3).setCell ⟨n, 4, none⟩ a4).frozen? ⟨n, 5, none⟩ = false ∧ ((((((w.setCell ⟨n, 0, none⟩ a0).setCell ⟨n, 1, none⟩ a1).setCell ⟨n, 2, none⟩ a2).setCell ⟨n, 3, none⟩ a3).setCell ⟨n, 4, none⟩ a4).setCell ⟨n, 5, none⟩ a5).cell? ⟨n, 6, none⟩ = some c6 ∧ ((((((w.setCell ⟨n, 0, none⟩ a0).setCell ⟨n, 1, none⟩ a1).setCell ⟨n, 2, none⟩ a2).setCell ⟨n, 3, none⟩ a3).setCell ⟨n, 4, none⟩ a4).setCell ⟨n, 5, none⟩ a5).frozen? ⟨n, 6, none⟩ = false ∧ (((((((w.setCell ⟨n, 0, none⟩ a0).setCell ⟨n, 1, none⟩ a1).setCell ⟨n, 2, none⟩ a2).setCell ⟨n, 3, none⟩ a3).setCell ⟨n, 4, none⟩ a4).setCell ⟨n, 5, none⟩ a5).setCell ⟨n, 6, none⟩ a6).cell? ⟨n, 7, none⟩ = some c7 ∧ (((((((w.setCell ⟨n, 0, none⟩ a0).setCell ⟨n, 1, none⟩ a1).setCell ⟨n, 2, none⟩ a2).setCell ⟨n, 3, none⟩ a3).setCell ⟨n, 4, none⟩ a4).setCell ⟨n, 5, none⟩ a5).setCell ⟨n, 6, none⟩ a6).frozen? ⟨n, 7, none⟩ = false := ⟨h.c 0 _ rfl, h.f 0, (h.putAt 0 a0).c 1 _ rfl, (h.putAt 0 a0).f 1, ((h.putAt 0 a0).putAt 1 a1).c 2 _ rfl, ((h.putAt 0 a0).putAt 1 a1).f 2, (((h.putAt 0 a0).putAt 1 a1).putAt 2 a2).c 3 _ rfl, (((h.putAt 0 a0).putAt 1 a1).putAt 2 a2).f 3, ((((h.putAt 0 a0).putAt 1 a1).putAt 2 a2).putAt 3 a3).c 4 _ rfl, ((((h.putAt 0 a0).putAt 1 a1).putAt 2 a2).putAt 3 a3).f 4, (((((h.putAt 0 a0).putAt 1 a1).putAt 2 a2).putAt 3 a3).putAt 4 a4).c 5 _ rfl, (((((h.putAt 0 a0).putAt 1 a1).putAt 2 a2).putAt 3 a3).putAt 4 a4).f 5, ((((((h.putAt 0 a0).putAt 1 a1).putAt 2 a2).putAt 3 a3).putAt 4 a4).putAt 5 a5).c 6 _ rfl, ((((((h.putAt 0 a0).putAt 1 a1).putAt 2 a2).putAt 3 a3).putAt 4 a4).putAt 5 a5).f 6, (((((((h.putAt 0 a0).putAt 1 a1).putAt 2 a2).putAt 3 a3).putAt 4 a4).putAt 5 a5).putAt 6 a6).c 7 _ rfl, (((((((h.putAt 0 a0).putAt 1 a1).putAt 2 a2).putAt 3 a3).putAt 4 a4).putAt 5 a5).putAt 6 a6).f 7⟩
theorem set5_blk (w : World) (n : Nat) (a0 a1 a2 a3 a4 : Value) : ∀ k, k ≠ n → (((((w.setCell ⟨n, 0, none⟩ a0).setCell ⟨n, 1, none⟩ a1).setCell ⟨n, 2, none⟩ a2).setCell ⟨n, 3, none⟩ a3).setCell ⟨n, 4, none⟩ a4).heap[k]? = w.heap[k]? := fun k hk => by
 rw [Below.heap_setCell _ ⟨n, 4, none⟩ _ k hk, Below.heap_setCell _ ⟨n, 3, none⟩ _ k hk, Below.heap_setCell _ ⟨n, 2, none⟩ _ k hk, Below.heap_setCell _ ⟨n, 1, none⟩ _ k hk, Below.heap_setCell _ ⟨n, 0, none⟩ _ k hk]
theorem set5_size (w : World) (n : Nat) (a0 a1 a2 a3 a4 : Value) : (((((w.setCell ⟨n, 0, none⟩ a0).setCell ⟨n, 1, none⟩ a1).setCell ⟨n, 2, none⟩ a2).setCell ⟨n, 3, none⟩ a3).setCell ⟨n, 4, none⟩ a4).heap.size = w.heap.size := by simp [World.setCell]
theorem set5_below (w : World) (n B : Nat) (h : B ≤ n) (a0 a1 a2 a3 a4 : Value) : Below B w (((((w.setCell ⟨n, 0, none⟩ a0).setCell ⟨n, 1, none⟩ a1).setCell ⟨n, 2, none⟩ a2).setCell ⟨n, 3, none⟩ a3).setCell ⟨n, 4, none⟩ a4) := ((((((Below.refl _ _).setCell (p := ⟨n, 0, none⟩) h _).setCell (p := ⟨n, 1, none⟩) h _).setCell (p := ⟨n, 2, none⟩) h _).setCell (p := ⟨n, 3, none⟩) h _).setCell (p := ⟨n, 4, none⟩) h _)
theorem set5_grown (w : World) (n : Nat) (a0 a1 a2 a3 a4 : Value) : w.grownBy (((((w.setCell ⟨n, 0, none⟩ a0).setCell ⟨n, 1, none⟩ a1).setCell ⟨n, 2, none⟩ a2).setCell ⟨n, 3, none⟩ a3).setCell ⟨n, 4, none⟩ a4) (some n) := (grown_trans ((grown_trans ((grown_trans ((grown_trans ((grown_trans (World.grownBy.refl w (some n)) (grown_set w n 0 _))) (grown_set (w.setCell ⟨n, 0, none⟩ a0) n 1 _))) (grown_set ((w.setCell ⟨n, 0, none⟩ a0).setCell ⟨n, 1, none⟩ a1) n 2 _))) (grown_set (((w.setCell ⟨n, 0, none⟩ a0).setCell ⟨n, 1, none⟩ a1).setCell ⟨n, 2, none⟩ a2) n 3 _))) (grown_set ((((w.setCell ⟨n, 0, none⟩ a0).setCell ⟨n, 1, none⟩ a1).setCell ⟨n, 2, none⟩ a2).setCell ⟨n, 3, none⟩ a3) n 4 _))
theorem set5_st {w : World} {n : Nat} {c0 c1 c2 c3 c4 : Value} {ty : TypeId} (h : Bx w n [c0, c1, c2, c3, c4] ty) (a0 a1 a2 a3 a4 : Value) : Bx (((((w.setCell ⟨n, 0, none⟩ a0).setCell ⟨n, 1, none⟩ a1).setCell ⟨n, 2, none⟩ a2).setCell ⟨n, 3, none⟩ a3).setCell ⟨n, 4, none⟩ a4) n [a0, a1, a2, a3, a4] ty := (((((h.putAt 0 a0).putAt 1 a1).putAt 2 a2).putAt 3 a3).putAt 4 a4)
theorem set5_facts {w : World} {n : Nat} {c0 c1 c2 c3 c4 : Value} {ty : TypeId} (h : Bx w n [c0, c1, c2, c3, c4] ty) (a0 a1 a2 a3 : Value) : w.cell? ⟨n, 0, none⟩ = some c0 ∧ w.frozen? ⟨n, 0, none⟩ = false ∧ (w.setCell ⟨n, 0, none⟩ a0).cell? ⟨n, 1, none⟩ = some c1 ∧ (w.setCell ⟨n, 0, none⟩ a0).frozen? ⟨n, 1, none⟩ = false ∧ ((w.setCell ⟨n, 0, none⟩ a0).setCell ⟨n, 1, none⟩ a1).cell? ⟨n, 2, none⟩ = some c2 ∧ ((w.setCell ⟨n, 0, none⟩ a0).setCell ⟨n, 1, none⟩ a1).frozen? ⟨n, 2, none⟩ = false ∧ (((w.setCell ⟨n, 0, none⟩ a0).setCell ⟨n, 1, none⟩ a1).setCell ⟨n, 2, none⟩ a2).cell? ⟨n, 3, none⟩ = some c3 ∧ (((w.setCell ⟨n, 0, none⟩ a0).setCell ⟨n, 1, none⟩ a1).setCell ⟨n, 2, none⟩ a2).frozen? ⟨n, 3, none⟩ = false ∧ ((((w.setCell ⟨n, 0, none⟩ a0).setCell ⟨n, 1, none⟩ a1).setCell ⟨n, 2, none⟩ a2).setCell ⟨n, 3, none⟩ a3).cell? ⟨n, 4, none⟩ = some c4 ∧ ((((w.setCell ⟨n, 0, none⟩ a0).setCell ⟨n, 1, none⟩ a1).setCell ⟨n, 2, none⟩ a2).setCell ⟨n, 3, none⟩ a3).frozen? ⟨n, 4, none⟩ = false := ⟨h.c 0 _ rfl, h.f 0, (h.putAt 0 a0).c 1 _ rfl, (h.putAt 0 a0).f 1, ((h.putAt 0 a0).putAt 1 a1).c 2 _ rfl, ((h.putAt 0 a0).putAt 1 a1).f 2, (((h.putAt 0 a0).putAt 1 a1).putAt 2 a2).c 3 _ rfl, (((h.putAt 0 a0).putAt 1 a1).putAt 2 a2).f 3, ((((h.putAt 0 a0).putAt 1 a1).putAt 2 a2).putAt 3 a3).c 4 _ rfl, ((((h.putAt 0 a0).putAt 1 a1).putAt 2 a2).putAt 3 a3).f 4⟩
theorem set35_blk (w : World) (n : Nat) (a2 a3 a4 : Value) : ∀ k, k ≠ n → (((w.setCell ⟨n, 2, none⟩ a2).setCell ⟨n, 3, none⟩ a3).setCell ⟨n, 4, none⟩ a4).heap[k]? = w.heap[k]? := fun k hk => by
 rw [Below.heap_setCell _ ⟨n, 4, none⟩ _ k hk, Below.heap_setCell _ ⟨n, 3, none⟩ _ k hk, Below.heap_setCell _ ⟨n, 2, none⟩ _ k hk]
theorem set35_size (w : World) (n : Nat) (a2 a3 a4 : Value) : (((w.setCell ⟨n, 2, none⟩ a2).setCell ⟨n, 3, none⟩ a3).setCell ⟨n, 4, none⟩ a4).heap.size = w.heap.size := by simp [World.setCell]
theorem set35_below (w : World) (n B : Nat) (h : B ≤ n) (a2 a3 a4 : Value) : Below B w (((w.setCell ⟨n, 2, none⟩ a2).setCell ⟨n, 3, none⟩ a3).setCell ⟨n, 4, none⟩ a4) := ((((Below.refl _ _).setCell (p := ⟨n, 2, none⟩) h _).setCell (p := ⟨n, 3, none⟩) h _).setCell (p := ⟨n, 4, none⟩) h _)
theorem set35_st {w : World} {n : Nat} {c0 c1 c2 c3 c4 : Value} {ty : TypeId} (h : Bx w n [c0, c1, c2, c3, c4] ty) (a2 a3 a4 : Value) : Bx (((w.setCell ⟨n, 2, none⟩ a2).setCell ⟨n, 3, none⟩ a3).setCell ⟨n, 4, none⟩ a4) n [c0, c1, a2, a3, a4] ty := (((h.putAt 2 a2).putAt 3 a3).putAt 4 a4)
theorem set35_facts {w : World} {n : Nat} {c0 c1 c2 c3 c4 : Value} {ty : TypeId} (h : Bx w n [c0, c1, c2, c3, c4] ty) (a2 a3 : Value) : w.cell? ⟨n, 2, none⟩ = some c2 ∧ w.frozen? ⟨n, 2, none⟩ = false ∧ (w.setCell ⟨n, 2, none⟩ a2).cell? ⟨n, 3, none⟩ = some c3 ∧ (w.setCell ⟨n, 2, none⟩ a2).frozen? ⟨n, 3, none⟩ = false ∧ ((w.setCell ⟨n, 2, none⟩ a2).setCell ⟨n, 3, none⟩ a3).cell? ⟨n, 4, none⟩ = some c4 ∧ ((w.setCell ⟨n, 2, none⟩ a2).setCell ⟨n, 3, none⟩ a3).frozen? ⟨n, 4, none⟩ = false := ⟨h.c 2 _ rfl, h.f 2, (h.putAt 2 a2).c 3 _ rfl, (h.putAt 2 a2).f 3, ((h.putAt 2 a2).putAt 3 a3).c 4 _ rfl, ((h.putAt 2 a2).putAt 3 a3).f 4⟩
theorem three_at {W : World} {v : Value} {x y z : Int} (h : NumV v [x, y, z] W) : ∃ g off cap, v = .slice (some ⟨g, off, none⟩) 3 cap ∧ W.cell? ⟨g, off, none⟩ = some (.int .i64 x) ∧ W.cell? ⟨g, off + 1, none⟩ = some (.int .i64 y) ∧ W.cell? ⟨g, off + 2, none⟩ = some (.int .i64 z) ∧ g < W.heap.size := by
 obtain ⟨oa, c, rfl, -, hs⟩ := h
 obtain ⟨g, off, rfl, hra⟩ := hs (by simp [pvals])
 exact ⟨g, off, c, rfl, hra.c 0 _ rfl 0 _ rfl, hra.c 1 _ rfl 0 _ rfl, hra.c 2 _ rfl 0 _ rfl, hra.lt⟩
theorem two_at {W : World} {v : Value} {x y : Int} (h : NumV v [x, y] W) : ∃ g off cap, v = .slice (some ⟨g, off, none⟩) 2 cap ∧ W.cell? ⟨g, off, none⟩ = some (.int .i64 x) ∧ W.cell? ⟨g, off + 1, none⟩ = some (.int .i64 y) ∧ g < W.heap.size := by
 obtain ⟨oa, c, rfl, -, hs⟩ := h
 obtain ⟨g, off, rfl, hra⟩ := hs (by simp [pvals])
 exact ⟨g, off, c, rfl, hra.c 0 _ rfl 0 _ rfl, hra.c 1 _ rfl 0 _ rfl, hra.lt⟩
set_option maxRecDepth 100000 in
set_option maxHeartbeats 8000000 in
theorem cell71 (W : World) (b : Nat) (ls : List (List UInt8)) (tl : List UInt8) (h : RdS W b ls tl) (hL : LibW W) :
  Calls Tryz.prog 71 #[.pointer (some ⟨b, 0, none⟩)] W (RdP b tl CelV W (Fm.rdCell ls)) := by
 generalize hO : Fm.rdCell ls = o
 obtain ⟨s, hsx, hsl, hss⟩ := h.ex
 rw [Fm.rdCell_pre hsl] at hO
 have HO := Lib.hid hO
 have h8 := h.lo
 have hlt0 := h.lt
 have hb1 : Below W.heap.size W (W.alloc (.cells #[.int .i64 0, .int .i64 0, .int .i64 0, .int .i64 0, .slice none 0 0, .int .i64 0, .slice none 0 0, .slice none 0 0] 85)) := (Below.refl _ _).alloc (Nat.le_refl _) _
 have HX2 := Lib.hid (Bx.new W [.int .i64 0, .int .i64 0, .int .i64 0, .int .i64 0, .slice none 0 0, .int .i64 0, .slice none 0 0, .slice none 0 0] 85)
 have HL := Lib.hid (hL.keep hb1)
 have HB := Lib.hid hb1
 have HS := Lib.hid (h.keep hb1)
 have HSX := Lib.hid (hsx.keep hb1)
 have HSZ : Hid ((W.alloc (.cells #[.int .i64 0, .int .i64 0, .int .i64 0, .int .i64 0, .slice none 0 0, .int .i64 0, .slice none 0 0, .slice none 0 0] 85)).heap.size = W.heap.size + 1) := Lib.hid (by simp)
 clear hb1 h hL hO hsx hsl hss
 go_enter Tryz.func71, Tryz.ntmps71
 go_upto_region 1 with fail
 generalize (W.alloc (.cells #[.int .i64 0, .int .i64 0, .int .i64 0, .int .i64 0, .slice none 0 0, .int .i64 0, .slice none 0 0, .slice none 0 0] 85)) = W1 at HX2 HL HB HS HSZ HSX ⊢
 obtain ⟨n2, hn2⟩ : ∃ n, n = W.heap.size := ⟨_, rfl⟩
 have HN2 := Lib.hid hn2
 rw [← hn2] at HX2 HSZ hlt0 ⊢
 clear hn2
 have sc := HSX.out.c 0 _ rfl
 have sl := HSX.out.lt
 have HPF := Lib.hid (prefix27 s ⟨#[115, 112, 108, 105, 116]⟩ W1)
 go_wp2_with fail
 refine HPF.out.mono ?_
 rintro e Wp ⟨rfl, hwp⟩
 subst hwp
 clear HPF HSX sc sl
 cases hpf : Lib.hasPrefix s.data.toList (⟨#[115, 112, 108, 105, 116]⟩ : ByteArray).data.toList with
 | true =>
  have HOS := Lib.hid (show Fm.rdSplit ls = o by
   have := HO.out
   rw [if_pos (show Lib.hasPrefix s.data.toList Fm.kwSplit = true from hpf)] at this
   exact this)
  clear hpf HO
  have HC := Lib.hid (exactly65 Wp b ⟨#[115, 112, 108, 105, 116]⟩ ls tl 3 HS.out HL.out)
  go_wp2_with fail
  refine HC.out.mono ?_
  rintro e W2 h1
  cases hq : Fm.rdN Fm.kwSplit 3 ls with
  | none =>
   rw [show Fm.rdN (⟨#[115, 112, 108, 105, 116]⟩ : ByteArray).data.toList 3 ls = none from hq] at h1
   obtain ⟨rfl, hG⟩ := h1.no
   have HG := Lib.hid (grown_trans (grown_of_below HB.out) hG)
   have HOT := Lib.hid (HOS.out.symm.trans (Fm.rdSplit_no hq))
   clear h1 hG HC hq
   unfold malP
   go_wp2
   exact ⟨rfl, RdP.mkno HOT.out HG.out⟩
  | some p =>
   obtain ⟨ns, q⟩ := p
   obtain ⟨j, l, hh, rfl⟩ := Fm.rdN_three hq
   rw [show Fm.rdN (⟨#[115, 112, 108, 105, 116]⟩ : ByteArray).data.toList 3 ls = some ([j, l, hh], q) from hq] at h1
   obtain ⟨v, rfl, hN, hS, hG⟩ := h1.yes
   obtain ⟨oa, cap, rfl, -, hs⟩ := hN.now
   have HCI := Lib.hid (ints77 W2 oa cap [j, l, hh] hs (Fm.rdN_in hq) (by simp))
   have HG := Lib.hid (grown_trans (grown_of_below HB.out) hG)
   have HQ := Lib.hid hq
   have HS2 := Lib.hid hS
   have HX22 := Lib.hid (HX2.out.grown hG (by omega))
   have HSZ2 : Hid (n2 + 1 ≤ W2.heap.size) := Lib.hid (by have := HSZ.out; have := hG.size; omega)
   clear h1 hN hS hG hs HC HX2 HL HB hq HS HSZ
   go_wp2_with fail
   refine HCI.out.mono ?_
   rintro e W3 ⟨v, rfl, hN, hb3⟩
   obtain ⟨g, off, cap3, rfl, x0, x1, x2, glt⟩ := three_at hN.now
   have HX0 := Lib.hid x0
   have HX1 := Lib.hid x1
   have HX2c := Lib.hid x2
   have HG3 := Lib.hid (grown_call HG.out hb3)
   have HS3 := Lib.hid (HS2.out.keep hb3)
   have HX23 := Lib.hid (HX22.out.keep hb3)
   have HSZ3 : Hid (n2 + 1 ≤ W3.heap.size) := Lib.hid (by have := HSZ2.out; have := hb3.size; omega)
   clear hN hb3 HCI HG HS2 HX22 HSZ2 x0 x1 x2
   go_upto_region 3 with fail
   refine wp_region_inv2 (by kernel_rfl) (by kernel_rfl) (fun L a w => ∃ v15 v16 v17 v18 v19 v20 v21 v22 v23 v24 v4 : Value, a = { tmps := #[((Value.pointer (some ⟨b, 0, none⟩))), undef, ((Value.pointer (some ⟨n2, 0, none⟩))), ((Value.slice (some ⟨g, off, none⟩) 3 cap3)), v4, undef, undef, ((Value.pointer (some ⟨b, 0, none⟩))), ((Value.pointer (some ⟨b, 0, none⟩))), ((Value.pointer (some ⟨b, 0, none⟩))), ((Value.string s)), ((Value.bool true)), ((Value.pointer (some ⟨b, 0, none⟩))), ((Value.slice oa 3 cap)), ((Value.slice (some ⟨g, off, none⟩) 3 cap3)), v15, v16, v17, v18, v19, v20, v21, v22, v23, v24, undef, undef, undef, undef, undef, undef, undef, undef, undef, undef, undef, undef, undef, undef, undef, undef, undef, undef, undef, undef, undef, undef, undef, undef, undef, undef], defers := [] } ∧ Cl3K b n2 g off cap3 j l hh W3 L v15 v16 v17 v18 v19 v20 v21 v22 v23 v24 v4 w) ?_ ?_ ?_
   ·exact ⟨_, _, _, _, _, _, _, _, _, _, _, rfl, ⟨below_drew W3 1, nofun, nofun, nofun, nofun, nofun, nofun, nofun, nofun, nofun, nofun, nofun, nofun⟩⟩
   ·intro iq oq ho L a w hL hd hJ
    obtain ⟨v15, v16, v17, v18, v19, v20, v21, v22, v23, v24, v4, rfl, k⟩ := hJ
    have hiq : iq < 12 := by have := (Array.getElem?_eq_some_iff.1 ho).1; simpa using this
    match iq, hiq, ho, hL with
    | 0, _, ho, hL =>
     have ho2 := ho
     simp only [qz1, qz2, qz3, qz4] at ho
     subst ho
     refine wpOp_step ho2 (fun K hK => ?_)
     go_simp
     exact hK _ _ ⟨_, _, _, _, _, _, _, _, _, _, _, rfl, ⟨k.wf, fun _ => rfl, k.f1, k.f2, k.f3, k.f4, k.f5, k.f6, k.f7, k.f8, k.f9, k.f10, k.f11⟩⟩
    | 1, _, ho, hL =>
     have ho2 := ho
     simp only [qz1, qz2, qz3, qz4] at ho
     subst ho
     refine wpOp_step ho2 (fun K hK => ?_)
     obtain rfl := k.f0 (hd ⟨0, .data⟩ (by simp) rfl)
     go_simp
     exact hK _ _ ⟨_, _, _, _, _, _, _, _, _, _, _, rfl, ⟨k.wf, k.f0, fun _ => rfl, k.f2, k.f3, k.f4, k.f5, k.f6, k.f7, k.f8, k.f9, k.f10, k.f11⟩⟩
    | 2, _, ho, hL =>
     have ho2 := ho
     simp only [qz1, qz2, qz3, qz4] at ho
     subst ho
     refine wpOp_step ho2 (fun K hK => ?_)
     obtain rfl := k.f1 (hd ⟨1, .data⟩ (by simp) rfl)
     have x1 : w.cell? ⟨g, off, none⟩ = some (.int .i64 j) := (k.wf.cell (p := ⟨g, off, none⟩) glt).trans HX0.out
     have gw : g < w.heap.size := Nat.lt_of_lt_of_le glt k.wf.size
     go_simp
     exact hK _ _ ⟨_, _, _, _, _, _, _, _, _, _, _, rfl, ⟨k.wf, k.f0, k.f1, fun _ => rfl, k.f3, k.f4, k.f5, k.f6, k.f7, k.f8, k.f9, k.f10, k.f11⟩⟩
    | 3, _, ho, hL =>
     have ho2 := ho
     simp only [qz1, qz2, qz3, qz4] at ho
     subst ho
     refine wpOp_step ho2 (fun K hK => ?_)
     go_simp
     exact hK _ _ ⟨_, _, _, _, _, _, _, _, _, _, _, rfl, ⟨k.wf, k.f0, k.f1, k.f2, fun _ => rfl, k.f4, k.f5, k.f6, k.f7, k.f8, k.f9, k.f10, k.f11⟩⟩
    | 4, _, ho, hL =>
     have ho2 := ho
     simp only [qz1, qz2, qz3, qz4] at ho
     subst ho
     refine wpOp_step ho2 (fun K hK => ?_)
     obtain rfl := k.f3 (hd ⟨3, .data⟩ (by simp) rfl)
     go_simp
     exact hK _ _ ⟨_, _, _, _, _, _, _, _, _, _, _, rfl, ⟨k.wf, k.f0, k.f1, k.f2, k.f3, fun _ => rfl, k.f5, k.f6, k.f7, k.f8, k.f9, k.f10, k.f11⟩⟩
    | 5, _, ho, hL =>
     have ho2 := ho
     simp only [qz1, qz2, qz3, qz4] at ho
     subst ho
     refine wpOp_step ho2 (fun K hK => ?_)
     obtain rfl := k.f4 (hd ⟨4, .data⟩ (by simp) rfl)
     have x1 : w.cell? ⟨g, off + 1, none⟩ = some (.int .i64 l) := (k.wf.cell (p := ⟨g, off + 1, none⟩) glt).trans HX1.out
     have gw : g < w.heap.size := Nat.lt_of_lt_of_le glt k.wf.size
     go_simp
     exact hK _ _ ⟨_, _, _, _, _, _, _, _, _, _, _, rfl, ⟨k.wf, k.f0, k.f1, k.f2, k.f3, k.f4, fun _ => rfl, k.f6, k.f7, k.f8, k.f9, k.f10, k.f11⟩⟩
    | 6, _, ho, hL =>
     have ho2 := ho
     simp only [qz1, qz2, qz3, qz4] at ho
     subst ho
     refine wpOp_step ho2 (fun K hK => ?_)
     go_simp
     exact hK _ _ ⟨_, _, _, _, _, _, _, _, _, _, _, rfl, ⟨k.wf, k.f0, k.f1, k.f2, k.f3, k.f4, k.f5, fun _ => rfl, k.f7, k.f8, k.f9, k.f10, k.f11⟩⟩
    | 7, _, ho, hL =>
     have ho2 := ho
     simp only [qz1, qz2, qz3, qz4] at ho
     subst ho
     refine wpOp_step ho2 (fun K hK => ?_)
     obtain rfl := k.f6 (hd ⟨6, .data⟩ (by simp) rfl)
     go_simp
     exact hK _ _ ⟨_, _, _, _, _, _, _, _, _, _, _, rfl, ⟨k.wf, k.f0, k.f1, k.f2, k.f3, k.f4, k.f5, k.f6, fun _ => rfl, k.f8, k.f9, k.f10, k.f11⟩⟩
    | 8, _, ho, hL =>
     have ho2 := ho
     simp only [qz1, qz2, qz3, qz4] at ho
     subst ho
     refine wpOp_step ho2 (fun K hK => ?_)
     obtain rfl := k.f7 (hd ⟨7, .data⟩ (by simp) rfl)
     have x1 : w.cell? ⟨g, off + 2, none⟩ = some (.int .i64 hh) := (k.wf.cell (p := ⟨g, off + 2, none⟩) glt).trans HX2c.out
     have gw : g < w.heap.size := Nat.lt_of_lt_of_le glt k.wf.size
     go_simp
     exact hK _ _ ⟨_, _, _, _, _, _, _, _, _, _, _, rfl, ⟨k.wf, k.f0, k.f1, k.f2, k.f3, k.f4, k.f5, k.f6, k.f7, fun _ => rfl, k.f9, k.f10, k.f11⟩⟩
    | 9, _, ho, hL =>
     have ho2 := ho
     simp only [qz1, qz2, qz3, qz4] at ho
     subst ho
     refine wpOp_step ho2 (fun K hK => ?_)
     obtain rfl := k.f2 (hd ⟨2, .data⟩ (by simp) rfl)
     obtain rfl := k.f5 (hd ⟨5, .data⟩ (by simp) rfl)
     obtain rfl := k.f8 (hd ⟨8, .data⟩ (by simp) rfl)
     go_simp
     exact hK _ _ ⟨_, _, _, _, _, _, _, _, _, _, _, rfl, ⟨k.wf, k.f0, k.f1, k.f2, k.f3, k.f4, k.f5, k.f6, k.f7, k.f8, fun _ => rfl, k.f10, k.f11⟩⟩
    | 10, _, ho, hL =>
     have ho2 := ho
     simp only [qz1, qz2, qz3, qz4] at ho
     subst ho
     refine wpOp_step ho2 (fun K hK => ?_)
     have hb : Below w.heap.size w (w.alloc (.cells #[.int .i64 0, .int .i64 0, .int .i64 0, .int .i64 0, .slice none 0 0, .int .i64 0, .slice none 0 0, .slice none 0 0] 85)) := (Below.refl _ _).alloc (Nat.le_refl _) _
     have hbx := Bx.new w [.int .i64 0, .int .i64 0, .int .i64 0, .int .i64 0, .slice none 0 0, .int .i64 0, .slice none 0 0, .slice none 0 0] 85
     have hzw := k.wf.size
     have hbw := below_call k.wf hb
     go_simp
     exact hK _ _ ⟨_, _, _, _, _, _, _, _, _, _, _, rfl, ⟨hbw, k.f0, k.f1, k.f2, k.f3, k.f4, k.f5, k.f6, k.f7, k.f8, k.f9, fun _ _ => ⟨w.heap.size, rfl, hbx, hzw⟩, fun h => absurd (hL.symm.trans (k.f11 h).1) (by decide)⟩⟩
    | 11, _, ho, hL =>
     have ho2 := ho
     simp only [qz1, qz2, qz3, qz4] at ho
     subst ho
     refine wpOp_step ho2 (fun K hK => ?_)
     obtain rfl := k.f9 (hd ⟨9, .data⟩ (by simp) rfl)
     have h10 := hd ⟨10, .data⟩ (by simp) rfl
     obtain ⟨n, rfl, hbx, hn⟩ := k.f10 h10 hL
     obtain ⟨y0, z0, y1, z1, y2, z2, y3, z3, y4, z4, y5, z5, y6, z6, y7, z7⟩ := facts8 hbx (.int .i64 j) (.int .i64 l) (.int .i64 hh) (.int .i64 0) (.slice none 0 0) (.int .i64 0) (.slice none 0 0)
     have ln := hbx.lt
     have hp := st8 hbx (.int .i64 j) (.int .i64 l) (.int .i64 hh) (.int .i64 0) (.slice none 0 0) (.int .i64 0) (.slice none 0 0) (.slice none 0 0)
     have hb2 := k.wf.trans (set8_below w n W3.heap.size hn (.int .i64 j) (.int .i64 l) (.int .i64 hh) (.int .i64 0) (.slice none 0 0) (.int .i64 0) (.slice none 0 0) (.slice none 0 0))
     go_simp
     exact hK _ _ ⟨_, _, _, _, _, _, _, _, _, _, _, rfl, ⟨hb2, k.f0, k.f1, k.f2, k.f3, k.f4, k.f5, k.f6, k.f7, k.f8, k.f9, fun _ => nofun, fun _ => ⟨h10, n, rfl, hp, hn⟩⟩⟩
    | n + 12, h, _, _ => omega
   ·intro L a w hL hJ
    obtain ⟨v15, v16, v17, v18, v19, v20, v21, v22, v23, v24, v4, rfl, k⟩ := hJ
    obtain rfl := k.f0 (hL 0 (by decide))
    obtain rfl := k.f1 (hL 1 (by decide))
    obtain rfl := k.f2 (hL 2 (by decide))
    obtain rfl := k.f3 (hL 3 (by decide))
    obtain rfl := k.f4 (hL 4 (by decide))
    obtain rfl := k.f5 (hL 5 (by decide))
    obtain rfl := k.f6 (hL 6 (by decide))
    obtain rfl := k.f7 (hL 7 (by decide))
    obtain rfl := k.f8 (hL 8 (by decide))
    obtain rfl := k.f9 (hL 9 (by decide))
    obtain ⟨-, n4, rfl, hx4, hn4⟩ := k.f11 (hL 11 (by decide))
    have hB4 := k.wf
    have HX4 := Lib.hid hx4
    have HB4 := Lib.hid hB4
    clear k hL hB4
    have m0 := hx4.c 0 _ rfl
    have m1 := hx4.c 1 _ rfl
    have m2 := hx4.c 2 _ rfl
    have m3 := hx4.c 3 _ rfl
    have m4 := hx4.c 4 _ rfl
    have m5 := hx4.c 5 _ rfl
    have m6 := hx4.c 6 _ rfl
    have m7 := hx4.c 7 _ rfl
    have ml := hx4.lt
    clear hx4
    have HLF := Lib.hid (leaf84 ⟨j, l, hh, Fm.zeroV⟩ none none none 0 0 0 w)
    go_wp2_with fail
    refine HLF.out.mono ?_
    rintro e W4 ⟨rfl, hb4⟩
    have HB5 := Lib.hid (below_call HB4.out hb4)
    have HX45 := Lib.hid (HX4.out.keep hb4)
    clear hb4 HLF m0 m1 m2 m3 m4 m5 m6 m7 ml HX4 HB4
    cases hlb : Fm.leafB ⟨j, l, hh, Fm.zeroV⟩ with
    | true =>
     have HND := Lib.hid (need_no W4)
     have HOT := Lib.hid (HOS.out.symm.trans (Fm.rdSplit_no1 HQ.out hlb))
     have HGF := Lib.hid (grown_call HG3.out HB5.out)
     go_wp2_with fail
     refine HND.out.mono ?_
     rintro e W5 ⟨rfl, hw5⟩
     subst hw5
     go_wp2
     exact ⟨rfl, RdP.mkno HOT.out HGF.out⟩
    | false =>
     have HND := Lib.hid (need_yes W4)
     go_wp2_with fail
     refine HND.out.mono ?_
     rintro e W5 ⟨rfl, hw5⟩
     subst hw5
     have m0 := HX45.out.c 0 _ rfl
     have m1 := HX45.out.c 1 _ rfl
     have m2 := HX45.out.c 2 _ rfl
     have m3 := HX45.out.c 3 _ rfl
     have m4 := HX45.out.c 4 _ rfl
     have m5 := HX45.out.c 5 _ rfl
     have m6 := HX45.out.c 6 _ rfl
     have m7 := HX45.out.c 7 _ rfl
     have ml := HX45.out.lt
     have hx2 := HX23.out.keep HB5.out
     obtain ⟨y0, z0, y1, z1, y2, z2, y3, z3, y4, z4, y5, z5, y6, z6, y7, z7⟩ := facts8 hx2 (.int .i64 j) (.int .i64 l) (.int .i64 hh) (.int .i64 0) (.slice none 0 0) (.int .i64 0) (.slice none 0 0)
     have yl := hx2.lt
     have HXF := Lib.hid (st8 hx2 (.int .i64 j) (.int .i64 l) (.int .i64 hh) (.int .i64 0) (.slice none 0 0) (.int .i64 0) (.slice none 0 0) (.slice none 0 0))
     have HBK := Lib.hid (set8_blk W5 n2 (.int .i64 j) (.int .i64 l) (.int .i64 hh) (.int .i64 0) (.slice none 0 0) (.int .i64 0) (.slice none 0 0) (.slice none 0 0))
     have h22 := HN2.out
     have HGF := Lib.hid (grown_low2 (grown_call HG3.out HB5.out) (set8_below W5 n2 W.heap.size (Nat.le_of_eq h22.symm) (.int .i64 j) (.int .i64 l) (.int .i64 hh) (.int .i64 0) (.slice none 0 0) (.int .i64 0) (.slice none 0 0) (.slice none 0 0)) (Nat.le_refl _))
     have HSF := Lib.hid (HS3.out.keep HB5.out)
     have HOT := Lib.hid (HOS.out.symm.trans (Fm.rdSplit_yes HQ.out hlb))
     clear hx2 h22
     go_wp2
     generalize ((((((((W5.setCell ⟨n2, 0, none⟩ (.int .i64 j)).setCell ⟨n2, 1, none⟩ (.int .i64 l)).setCell ⟨n2, 2, none⟩ (.int .i64 hh)).setCell ⟨n2, 3, none⟩ (.int .i64 0)).setCell ⟨n2, 4, none⟩ (.slice none 0 0)).setCell ⟨n2, 5, none⟩ (.int .i64 0)).setCell ⟨n2, 6, none⟩ (.slice none 0 0)).setCell ⟨n2, 7, none⟩ (.slice none 0 0)) = W9 at HXF HBK HGF ⊢
     have c0 := HXF.out.c 0 _ rfl
     have c1 := HXF.out.c 1 _ rfl
     have c2 := HXF.out.c 2 _ rfl
     have c3 := HXF.out.c 3 _ rfl
     have c4 := HXF.out.c 4 _ rfl
     have c5 := HXF.out.c 5 _ rfl
     have c6 := HXF.out.c 6 _ rfl
     have c7 := HXF.out.c 7 _ rfl
     refine bodyPost_ret (v := .agg #[.int .i64 j, .int .i64 l, .int .i64 hh, .int .i64 0, .slice none 0 0, .int .i64 0, .slice none 0 0, .slice none 0 0]) (by simp [results, Tryz.results71, go_sem, c0, c1, c2, c3, c4, c5, c6, c7]) rfl ?_
     refine RdP.mk (x := ⟨j, l, hh, Fm.zeroV⟩) HOT.out (fun W' _ => ⟨none, none, none, 0, 0, 0, rfl, verd_nil W'⟩) ?_ HGF.out
     obtain ⟨⟨s', hs1, hs2, hs3⟩, hs4⟩ := HSF.out
     have hbn : b ≠ n2 := by omega
     exact ⟨⟨s', ⟨(HBK.out b hbn).trans hs1.h⟩, hs2, hs3⟩, hs4⟩
 | false =>
  have HOL := Lib.hid (show Fm.rdLeaf ls = o by
   have := HO.out
   rw [if_neg (show ¬ Lib.hasPrefix s.data.toList Fm.kwSplit = true from by rw [show Lib.hasPrefix s.data.toList Fm.kwSplit = false from hpf]; decide)] at this
   exact this)
  clear hpf HO
  have HC := Lib.hid (exactly65 Wp b ⟨#[108, 101, 97, 102]⟩ ls tl 2 HS.out HL.out)
  go_wp2_with fail
  refine HC.out.mono ?_
  rintro e W2 h1
  cases hq : Fm.rdN Fm.kwLeaf 2 ls with
  | none =>
   rw [show Fm.rdN (⟨#[108, 101, 97, 102]⟩ : ByteArray).data.toList 2 ls = none from hq] at h1
   obtain ⟨rfl, hG⟩ := h1.no
   have HG := Lib.hid (grown_trans (grown_of_below HB.out) hG)
   have HOT := Lib.hid (HOL.out.symm.trans (Fm.rdLeaf_no hq))
   clear h1 hG HC hq
   unfold malP
   go_wp2
   exact ⟨rfl, RdP.mkno HOT.out HG.out⟩
  | some p =>
   obtain ⟨ns, q⟩ := p
   obtain ⟨kk, nn, rfl⟩ := Fm.rdN_two hq
   rw [show Fm.rdN (⟨#[108, 101, 97, 102]⟩ : ByteArray).data.toList 2 ls = some ([kk, nn], q) from hq] at h1
   obtain ⟨v, rfl, hN, hS, hG⟩ := h1.yes
   obtain ⟨oa, cap, rfl, -, hs⟩ := hN.now
   have HCI := Lib.hid (ints77 W2 oa cap [kk, nn] hs (Fm.rdN_in hq) (by simp))
   have HG := Lib.hid (grown_trans (grown_of_below HB.out) hG)
   have HQ := Lib.hid hq
   have HS2 := Lib.hid hS
   have HL2 := Lib.hid (HL.out.keepG hG h8)
   have HX22 := Lib.hid (HX2.out.grown hG (by omega))
   have HSZ2 : Hid (n2 + 1 ≤ W2.heap.size) := Lib.hid (by have := HSZ.out; have := hG.size; omega)
   clear h1 hN hS hG hs HC HX2 HL HB hq HS HSZ
   go_wp2_with fail
   refine HCI.out.mono ?_
   rintro e W3 ⟨v, rfl, hN, hb3⟩
   obtain ⟨g, off, cap3, rfl, -, -, -⟩ := two_at hN.now
   have hbW2 : b < W2.heap.size := HS2.out.lt
   have HGET : Hid (∀ X, W3.grownBy X (some b) → X.cell? ⟨g, off, none⟩ = some (.int .i64 kk) ∧ X.cell? ⟨g, off + 1, none⟩ = some (.int .i64 nn) ∧ g < X.heap.size) := Lib.hid (fun X hX => by
    obtain ⟨g', off', cap', e', x0, x1, glt⟩ := two_at (hN X (fun k hk => hX.block k hk.2 (by intro e; injection e with e; have := hk.1; omega)))
    injection e' with e' _ _
    injection e' with e'
    injection e' with e1 e2 _
    subst e1 e2
    exact ⟨x0, x1, glt⟩)
   have HG3 := Lib.hid (grown_call HG.out hb3)
   have HS3 := Lib.hid (HS2.out.keep hb3)
   have HL3 := Lib.hid (HL2.out.keep hb3)
   have HX23 := Lib.hid (HX22.out.keep hb3)
   have HSZ3 : Hid (n2 + 1 ≤ W3.heap.size) := Lib.hid (by have := HSZ2.out; have := hb3.size; omega)
   clear hN hb3 HCI HG HS2 HX22 HSZ2 HL2 hbW2
   have HP : Hid (∀ X, W3.grownBy X (some b) → (¬ Fm.cntOk nn = true ∨ (Fm.cntOk nn = true ∧ Fm.rep Fm.rdNormal nn.toNat q = none)) → RdP b tl CelV W o malP X) := Lib.hid (fun X hX hn => RdP.mkno (by
    rcases hn with hn | hn
    ·exact HOL.out.symm.trans (Fm.rdLeaf_no1 HQ.out hn)
    ·exact HOL.out.symm.trans (Fm.rdLeaf_no2 HQ.out hn.1 hn.2)) (grown_trans HG3.out hX))
   have hb3s : b < W3.heap.size := HS3.out.lt
   have hn2s : n2 < W3.heap.size := by have := HSZ3.out; omega
   go_upto_region 7 with fail
   refine wp_region_inv2 (by kernel_rfl) (by kernel_rfl) (fun L a w => ∃ v33 v34 v35 v36 v37 v38 v39 v40 v41 v42 v6 : Value, a = { tmps := #[((Value.pointer (some ⟨b, 0, none⟩))), undef, ((Value.pointer (some ⟨n2, 0, none⟩))), undef, undef, ((Value.slice (some ⟨g, off, none⟩) 2 cap3)), v6, ((Value.pointer (some ⟨b, 0, none⟩))), ((Value.pointer (some ⟨b, 0, none⟩))), ((Value.pointer (some ⟨b, 0, none⟩))), ((Value.string s)), ((Value.bool false)), undef, undef, undef, undef, undef, undef, undef, undef, undef, undef, undef, undef, undef, undef, undef, undef, undef, undef, ((Value.pointer (some ⟨b, 0, none⟩))), ((Value.slice oa 2 cap)), ((Value.slice (some ⟨g, off, none⟩) 2 cap3)), v33, v34, v35, v36, v37, v38, v39, v40, v41, v42, undef, undef, undef, undef, undef, undef, undef, undef], defers := [] } ∧ Cl7K b n2 g off cap3 kk nn q tl W3 L v33 v34 v35 v36 v37 v38 v39 v40 v41 v42 v6 w) ?_ ?_ ?_
   ·exact ⟨_, _, _, _, _, _, _, _, _, _, _, rfl, ⟨⟨grown_of_below (below_drew W3 1), fun _ => HS3.out.keep (below_drew W3 1), HL3.out.keep (below_drew W3 1), fun _ => rfl⟩, nofun, nofun, nofun, nofun, nofun, nofun, nofun, nofun, nofun, nofun, nofun, nofun⟩⟩
   ·intro iq oq ho L a w hL hd hJ
    obtain ⟨v33, v34, v35, v36, v37, v38, v39, v40, v41, v42, v6, rfl, k⟩ := hJ
    have hiq : iq < 12 := by have := (Array.getElem?_eq_some_iff.1 ho).1; simpa using this
    match iq, hiq, ho, hL with
    | 0, _, ho, hL =>
     have ho2 := ho
     simp only [qz1, qz2, qz3, qz4] at ho
     subst ho
     refine wpOp_step ho2 (fun K hK => ?_)
     go_simp
     exact hK _ _ ⟨_, _, _, _, _, _, _, _, _, _, _, rfl, ⟨k.wf, fun _ => rfl, k.f1, k.f2, k.f3, k.f4, k.f5, k.f6, k.f7, k.f8, k.f9, k.f10, k.f11⟩⟩
    | 1, _, ho, hL =>
     have ho2 := ho
     simp only [qz1, qz2, qz3, qz4] at ho
     subst ho
     refine wpOp_step ho2 (fun K hK => ?_)
     obtain rfl := k.f0 (hd ⟨0, .data⟩ (by simp) rfl)
     go_simp
     exact hK _ _ ⟨_, _, _, _, _, _, _, _, _, _, _, rfl, ⟨k.wf, k.f0, fun _ => rfl, k.f2, k.f3, k.f4, k.f5, k.f6, k.f7, k.f8, k.f9, k.f10, k.f11⟩⟩
    | 2, _, ho, hL =>
     have ho2 := ho
     simp only [qz1, qz2, qz3, qz4] at ho
     subst ho
     refine wpOp_step ho2 (fun K hK => ?_)
     obtain rfl := k.f1 (hd ⟨1, .data⟩ (by simp) rfl)
     obtain ⟨x0, x1, glt⟩ := HGET.out w k.wf.1
     go_simp
     exact hK _ _ ⟨_, _, _, _, _, _, _, _, _, _, _, rfl, ⟨k.wf, k.f0, k.f1, fun _ => rfl, k.f3, k.f4, k.f5, k.f6, k.f7, k.f8, k.f9, k.f10, k.f11⟩⟩
    | 3, _, ho, hL =>
     have ho2 := ho
     simp only [qz1, qz2, qz3, qz4] at ho
     subst ho
     refine wpOp_step ho2 (fun K hK => ?_)
     go_simp
     exact hK _ _ ⟨_, _, _, _, _, _, _, _, _, _, _, rfl, ⟨k.wf, k.f0, k.f1, k.f2, fun _ => rfl, k.f4, k.f5, k.f6, k.f7, k.f8, k.f9, k.f10, k.f11⟩⟩
    | 4, _, ho, hL =>
     have ho2 := ho
     simp only [qz1, qz2, qz3, qz4] at ho
     subst ho
     refine wpOp_step ho2 (fun K hK => ?_)
     go_simp
     exact hK _ _ ⟨_, _, _, _, _, _, _, _, _, _, _, rfl, ⟨k.wf, k.f0, k.f1, k.f2, k.f3, fun _ => rfl, k.f5, k.f6, k.f7, k.f8, k.f9, k.f10, k.f11⟩⟩
    | 5, _, ho, hL =>
     have ho2 := ho
     simp only [qz1, qz2, qz3, qz4] at ho
     subst ho
     refine wpOp_step ho2 (fun K hK => ?_)
     obtain rfl := k.f4 (hd ⟨4, .data⟩ (by simp) rfl)
     go_simp
     exact hK _ _ ⟨_, _, _, _, _, _, _, _, _, _, _, rfl, ⟨k.wf, k.f0, k.f1, k.f2, k.f3, k.f4, fun _ => rfl, k.f6, k.f7, k.f8, k.f9, k.f10, k.f11⟩⟩
    | 6, _, ho, hL =>
     have ho2 := ho
     simp only [qz1, qz2, qz3, qz4] at ho
     subst ho
     refine wpOp_step ho2 (fun K hK => ?_)
     obtain rfl := k.f5 (hd ⟨5, .data⟩ (by simp) rfl)
     obtain ⟨x0, x1, glt⟩ := HGET.out w k.wf.1
     go_simp
     exact hK _ _ ⟨_, _, _, _, _, _, _, _, _, _, _, rfl, ⟨k.wf, k.f0, k.f1, k.f2, k.f3, k.f4, k.f5, fun _ => rfl, k.f7, k.f8, k.f9, k.f10, k.f11⟩⟩
    | 7, _, ho, hL =>
     have ho2 := ho
     simp only [qz1, qz2, qz3, qz4] at ho
     subst ho
     refine wpOp_step ho2 (fun K hK => ?_)
     obtain rfl := k.f6 (hd ⟨6, .data⟩ (by simp) rfl)
     by_cases hc : Fm.cntOk nn = true
     ·have hcc : Calls Tryz.prog 67 #[.int .i64 nn] w (fun e W' => e = .returned (.int .i64 nn) ∧ W' = w) := (count64 nn w).mono fun e W' h => by rw [if_pos hc] at h; exact h
      go_simp
      refine hcc.mono ?_
      rintro e X ⟨rfl, hX⟩
      subst hX
      exact hK _ _ ⟨_, _, _, _, _, _, _, _, _, _, _, rfl, ⟨k.wf, k.f0, k.f1, k.f2, k.f3, k.f4, k.f5, k.f6, fun _ => ⟨hc, rfl⟩, fun h => absurd (hL.symm.trans (k.f8 h).1) (by decide), fun h => absurd (hL.symm.trans (k.f8 (k.f9 h).1).1) (by decide), k.f10, fun h => absurd (hL.symm.trans (k.f8 (k.f9 (k.f11 h).1).1).1) (by decide)⟩⟩
     ·have hcc : Calls Tryz.prog 67 #[.int .i64 nn] w (fun e W' => e = .panicked [{ v := .iface 133 (.agg #[]), recovered := false }] ∧ W' = w) := (count64 nn w).mono fun e W' h => by rw [if_neg hc] at h; exact h
      go_simp
      refine hcc.mono ?_
      rintro e X ⟨rfl, hX⟩
      subst hX
      exact ⟨rfl, HP.out _ k.wf.1 (.inl hc)⟩
    | 8, _, ho, hL =>
     have ho2 := ho
     simp only [qz1, qz2, qz3, qz4] at ho
     subst ho
     refine wpOp_step ho2 (fun K hK => ?_)
     obtain rfl := k.f3 (hd ⟨3, .data⟩ (by simp) rfl)
     obtain ⟨hc, rfl⟩ := k.f7 (hd ⟨7, .data⟩ (by simp) rfl)
     have h7 := hd ⟨7, .data⟩ (by simp) rfl
     obtain ⟨m0, hm0⟩ : ∃ m0 : Nat, nn = (m0 : Int) := ⟨nn.toNat, (Fm.cnt_nat hc).symm⟩
     have hms : m0 ≤ 1048576 := by have := hc; unfold Fm.cntOk at this; rw [decide_eq_true_eq] at this; omega
     subst hm0
     have hcall := normals81 w b q tl m0 hms (k.wf.2.1 hL) k.wf.2.2.1
     go_simp
     refine hcall.mono ?_
     intro e X hx
     cases hr : Fm.rep Fm.rdNormal m0 q with
     | none =>
      rw [hr] at hx
      obtain ⟨rfl, hG⟩ := hx.no
      have hfin := HP.out X (grown_trans k.wf.1 hG) (.inr ⟨hc, by rw [Int.toNat_natCast]; exact hr⟩)
      unfold malP at hfin ⊢
      exact ⟨rfl, hfin⟩
     | some p =>
      obtain ⟨nv, q2⟩ := p
      rw [hr] at hx
      obtain ⟨v, rfl, hN, hS, hG⟩ := hx.yes
      obtain ⟨on, cn, rfl, -⟩ := hN.now
      have hz1 := k.wf.1.size
      have hz2 := hG.size
      have hN2 : Fp (fun k => W3.heap.size ≤ k ∧ k < X.heap.size ∧ v6 ≠ .pointer (some ⟨k, 0, none⟩)) X (fun X => Sl X on 3 (vecsV nv)) := fun Y hY => by
       obtain ⟨oa, cp, e, h⟩ := hN Y fun j hj => hY j ⟨Nat.le_trans hz1 hj.1, hj.2, fun e6 => by
        cases h10 : L 10 with
        | false => rw [k.wf.2.2.2 h10] at e6; cases e6
        | true =>
         obtain ⟨n, e, hbx, -⟩ := k.f10 h10 (by
          cases h11 : L 11 with
          | false => rfl
          | true => exact absurd (hL.symm.trans (k.f9 (k.f11 h11).1).1) (by decide))
         rw [e] at e6
         injection e6 with e6
         injection e6 with e6
         injection e6 with e6 _ _
         have := hbx.lt
         have := hj.1
         omega⟩
       injection e with e _ _
       rw [e]
       exact vecs_of h
      exact hK _ _ ⟨_, _, _, _, _, _, _, _, _, _, _, rfl, ⟨⟨grown_trans k.wf.1 hG, nofun, k.wf.2.2.1.keepG hG h8, k.wf.2.2.2⟩, k.f0, k.f1, k.f2, k.f3, k.f4, k.f5, k.f6, k.f7, fun _ => ⟨h7, nv, q2, on, cn, by rw [Int.toNat_natCast]; exact hr, rfl, hN2, hS⟩, fun h => absurd (hL.symm.trans (k.f9 h).1) (by decide), fun h e => (k.f10 h e).imp fun n h => ⟨h.1, h.2.1.grown hG (by have := h.2.2; omega), h.2.2⟩, fun h => absurd (hL.symm.trans (k.f9 (k.f11 h).1).1) (by decide)⟩⟩
    | 9, _, ho, hL =>
     have ho2 := ho
     simp only [qz1, qz2, qz3, qz4] at ho
     subst ho
     refine wpOp_step ho2 (fun K hK => ?_)
     obtain rfl := k.f2 (hd ⟨2, .data⟩ (by simp) rfl)
     obtain ⟨h7, nv, q2, on, cn, hr, rfl, hN, hS⟩ := k.f8 (hd ⟨8, .data⟩ (by simp) rfl)
     have h8' := hd ⟨8, .data⟩ (by simp) rfl
     go_simp
     exact hK _ _ ⟨_, _, _, _, _, _, _, _, _, _, _, rfl, ⟨k.wf, k.f0, k.f1, k.f2, k.f3, k.f4, k.f5, k.f6, k.f7, k.f8, fun _ => ⟨h8', rfl⟩, k.f10, fun h => absurd (hL.symm.trans (k.f11 h).1) (by decide)⟩⟩
    | 10, _, ho, hL =>
     have ho2 := ho
     simp only [qz1, qz2, qz3, qz4] at ho
     subst ho
     refine wpOp_step ho2 (fun K hK => ?_)
     have hb : Below w.heap.size w (w.alloc (.cells #[.int .i64 0, .slice none 0 0, .int .i64 0, .slice none 0 0, .slice none 0 0] 83)) := (Below.refl _ _).alloc (Nat.le_refl _) _
     have hbx := Bx.new w [.int .i64 0, .slice none 0 0, .int .i64 0, .slice none 0 0, .slice none 0 0] 83
     have hzw := k.wf.1.size
     have h10' := k.wf.2.2.2 hL
     subst h10'
     go_simp
     exact hK _ _ ⟨_, _, _, _, _, _, _, _, _, _, _, rfl, ⟨⟨grown_call k.wf.1 hb, fun h => (k.wf.2.1 h).keep hb, k.wf.2.2.1.keep hb, nofun⟩, k.f0, k.f1, k.f2, k.f3, k.f4, k.f5, k.f6, k.f7, fun h => (k.f8 h).imp id fun ⟨nv, q2, on, cn, hr, e, hN, hS⟩ => ⟨nv, q2, on, cn, hr, e, fun Y hY => hN Y fun j hj => (hY j ⟨hj.1, Nat.lt_of_lt_of_le hj.2.1 hb.size, fun e6 => by injection e6 with e6; injection e6 with e6; injection e6 with e6 _ _; have := hj.2.1; omega⟩).trans (hb.block j hj.2.1), hS.keep hb⟩, k.f9, fun _ _ => ⟨w.heap.size, rfl, hbx, hzw⟩, fun h => absurd (hL.symm.trans (k.f11 h).2.1) (by decide)⟩⟩
    | 11, _, ho, hL =>
     have ho2 := ho
     simp only [qz1, qz2, qz3, qz4] at ho
     subst ho
     refine wpOp_step ho2 (fun K hK => ?_)
     obtain ⟨h8', rfl⟩ := k.f9 (hd ⟨9, .data⟩ (by simp) rfl)
     have h9 := hd ⟨9, .data⟩ (by simp) rfl
     have h10 := hd ⟨10, .data⟩ (by simp) rfl
     obtain ⟨h7, nv, q2, on, cn, hr, rfl, hN, hS⟩ := k.f8 h8'
     obtain ⟨n, rfl, hbx, hn⟩ := k.f10 h10 hL
     obtain ⟨y0, z0, y1, z1, y2, z2, y3, z3, y4, z4⟩ := set5_facts hbx (.int .i64 kk) (.slice on nv.length cn) (.int .i64 0) (.slice none 0 0)
     have ln := hbx.lt
     have hp := set5_st hbx (.int .i64 kk) (.slice on nv.length cn) (.int .i64 0) (.slice none 0 0) (.slice none 0 0)
     have hb2 := set5_below w n W3.heap.size hn (.int .i64 kk) (.slice on nv.length cn) (.int .i64 0) (.slice none 0 0) (.slice none 0 0)
     have hg2 := set5_grown w n (.int .i64 kk) (.slice on nv.length cn) (.int .i64 0) (.slice none 0 0) (.slice none 0 0)
     have hk2 := set5_blk w n (.int .i64 kk) (.slice on nv.length cn) (.int .i64 0) (.slice none 0 0) (.slice none 0 0)
     have hs2 := set5_size w n (.int .i64 kk) (.slice on nv.length cn) (.int .i64 0) (.slice none 0 0) (.slice none 0 0)
     have hG := grown_low2 k.wf.1 hb2 (Nat.le_refl _)
     have hLL := k.wf.2.2.1.keepG hg2 (by omega)
     have hS2 : RdS (((((w.setCell ⟨n, 0, none⟩ (.int .i64 kk)).setCell ⟨n, 1, none⟩ (.slice on nv.length cn)).setCell ⟨n, 2, none⟩ (.int .i64 0)).setCell ⟨n, 3, none⟩ (.slice none 0 0)).setCell ⟨n, 4, none⟩ (.slice none 0 0)) b q2 tl := by
      obtain ⟨⟨s', hs1, hs2', hs3⟩, hs4⟩ := hS
      exact ⟨⟨s', ⟨(hk2 b (by omega)).trans hs1.h⟩, hs2', hs3⟩, hs4⟩
     have hN2 : Fp (fun k => W3.heap.size ≤ k ∧ k < (((((w.setCell ⟨n, 0, none⟩ (.int .i64 kk)).setCell ⟨n, 1, none⟩ (.slice on nv.length cn)).setCell ⟨n, 2, none⟩ (.int .i64 0)).setCell ⟨n, 3, none⟩ (.slice none 0 0)).setCell ⟨n, 4, none⟩ (.slice none 0 0)).heap.size ∧ (Value.pointer (some ⟨n, 0, none⟩)) ≠ .pointer (some ⟨k, 0, none⟩)) (((((w.setCell ⟨n, 0, none⟩ (.int .i64 kk)).setCell ⟨n, 1, none⟩ (.slice on nv.length cn)).setCell ⟨n, 2, none⟩ (.int .i64 0)).setCell ⟨n, 3, none⟩ (.slice none 0 0)).setCell ⟨n, 4, none⟩ (.slice none 0 0)) (fun X => Sl X on 3 (vecsV nv)) := fun Y hY => hN Y fun j hj => (hY j ⟨hj.1, by rw [hs2]; exact hj.2.1, hj.2.2⟩).trans (hk2 j (fun e => hj.2.2 (by rw [e])))
     have ln2 : n < (((((w.setCell ⟨n, 0, none⟩ (.int .i64 kk)).setCell ⟨n, 1, none⟩ (.slice on nv.length cn)).setCell ⟨n, 2, none⟩ (.int .i64 0)).setCell ⟨n, 3, none⟩ (.slice none 0 0)).setCell ⟨n, 4, none⟩ (.slice none 0 0)).heap.size := by rw [hs2]; exact ln
     clear hb2 hg2 hk2 hs2
     go_simp
     exact hK _ _ ⟨_, _, _, _, _, _, _, _, _, _, _, rfl, ⟨⟨hG, fun h => absurd (h8'.symm.trans h) (by decide), hLL, fun h => absurd (h10.symm.trans h) (by decide)⟩, k.f0, k.f1, k.f2, k.f3, k.f4, k.f5, k.f6, k.f7, fun _ => ⟨h7, nv, q2, on, cn, hr, rfl, hN2, hS2⟩, k.f9, fun _ => nofun, fun _ => ⟨h9, h10, n, rfl, hp, hn, ln2⟩⟩⟩
    | n + 12, h, _, _ => omega
   ·intro L a w hL hJ
    obtain ⟨v33, v34, v35, v36, v37, v38, v39, v40, v41, v42, v6, rfl, k⟩ := hJ
    obtain rfl := k.f0 (hL 0 (by decide))
    obtain rfl := k.f1 (hL 1 (by decide))
    obtain rfl := k.f2 (hL 2 (by decide))
    obtain rfl := k.f3 (hL 3 (by decide))
    obtain rfl := k.f4 (hL 4 (by decide))
    obtain rfl := k.f5 (hL 5 (by decide))
    obtain rfl := k.f6 (hL 6 (by decide))
    obtain ⟨h9, -, n6, rfl, hx6, hn6, hl6⟩ := k.f11 (hL 11 (by decide))
    obtain ⟨h8', rfl⟩ := k.f9 h9
    obtain ⟨h7, nv, q2, on, cn, hr, rfl, hN, hS⟩ := k.f8 h8'
    obtain ⟨hc, rfl⟩ := k.f7 h7
    have hwf := k.wf
    have HG4 := Lib.hid hwf.1
    have HL4 := Lib.hid hwf.2.2.1
    have HX6 := Lib.hid hx6
    have HN4 := Lib.hid hN
    have HS4 := Lib.hid hS
    have HR := Lib.hid hr
    have HCN := Lib.hid hc
    clear k hL hwf hx6 hN hS hr hc
    dsimp only
    have m0 := HX6.out.c 0 _ rfl
    have ml := HX6.out.lt
    have hb3 := HS3.out.lt
    by_cases hk2 : kk = 2
    ·have hkd : (kk == 2) = true := by rw [hk2]; rfl
     have hkd2 : decide (kk = 2) = true := decide_eq_true hk2
     have HK2 := Lib.hid hk2
     clear hk2
     have HCW := Lib.hid (witness99 w b q2 tl HS4.out HL4.out)
     go_wp2_with fail
     refine HCW.out.mono ?_
     clear HCW
     rintro e W6 h6
     cases hw : Fm.rdWit q2 with
     | none =>
      rw [hw] at h6
      obtain ⟨rfl, hG⟩ := h6.no
      have HOT := Lib.hid (HOL.out.symm.trans (Fm.rdLeaf_no3 HQ.out HCN.out HR.out HK2.out hw))
      have HGF := Lib.hid (grown_trans HG3.out (grown_trans HG4.out hG))
      clear h6 hG hw
      unfold malP
      go_wp2
      exact ⟨rfl, RdP.mkno HOT.out HGF.out⟩
     | some x =>
      obtain ⟨⟨p, lf, rt⟩, q3⟩ := x
      rw [hw] at h6
      obtain ⟨v, rfl, hN, hS, hG⟩ := h6.yes
      obtain ⟨ol, cl, orr, cr, rfl, -, -⟩ := hN.now
      have HOT := Lib.hid (HOL.out.symm.trans (Fm.rdLeaf_yes HQ.out HCN.out HR.out HK2.out hw))
      have hx6 := HX6.out.grown hG (by omega)
      obtain ⟨y2, z2, y3, z3, y4, z4⟩ := set35_facts hx6 (.int .i64 p) (.slice ol lf.length cl)
      have yl := hx6.lt
      have HX66 := Lib.hid (set35_st hx6 (.int .i64 p) (.slice ol lf.length cl) (.slice orr rt.length cr))
      have HK6 := Lib.hid (set35_blk W6 n6 (.int .i64 p) (.slice ol lf.length cl) (.slice orr rt.length cr))
      have HZ6 := Lib.hid (set35_size W6 n6 (.int .i64 p) (.slice ol lf.length cl) (.slice orr rt.length cr))
      have HB6 := Lib.hid (set35_below W6 n6 W3.heap.size hn6 (.int .i64 p) (.slice ol lf.length cl) (.slice orr rt.length cr))
      have HG6 := Lib.hid (grown_trans HG4.out hG)
      have HG5 := Lib.hid hG
      have HN6 := Lib.hid hN
      have HS6 := Lib.hid hS
      clear h6 hw hx6 hN hS hG m0 ml
      go_upto_region 10 with fail
      generalize (((W6.setCell ⟨n6, 2, none⟩ (.int .i64 p)).setCell ⟨n6, 3, none⟩ (.slice ol lf.length cl)).setCell ⟨n6, 4, none⟩ (.slice orr rt.length cr)) = W7 at HX66 HK6 HZ6 HB6 ⊢
      clear y2 z2 y3 z3 y4 z4 yl hkd hkd2
      have HG7 := Lib.hid (grown_low2 HG6.out HB6.out (Nat.le_refl _))
      have m0 := HX66.out.c 0 _ rfl
      have m1 := HX66.out.c 1 _ rfl
      have m2 := HX66.out.c 2 _ rfl
      have m3 := HX66.out.c 3 _ rfl
      have m4 := HX66.out.c 4 _ rfl
      have ml := HX66.out.lt
      have hx2 := HX23.out.grown HG7.out (by omega)
      obtain ⟨y0, z0, y1, z1, y2, z2, y3, z3, y4, z4, y5, z5, y6, z6, y7, z7⟩ := facts8 hx2 (.int .i64 (-1)) (.int .i64 (-1)) (.int .i64 (-1)) (.int .i64 kk) (.slice on nv.length cn) (.int .i64 p) (.slice ol lf.length cl)
      have yl := hx2.lt
      have HXF := Lib.hid (st8 hx2 (.int .i64 (-1)) (.int .i64 (-1)) (.int .i64 (-1)) (.int .i64 kk) (.slice on nv.length cn) (.int .i64 p) (.slice ol lf.length cl) (.slice orr rt.length cr))
      have HBK := Lib.hid (set8_blk W7 n2 (.int .i64 (-1)) (.int .i64 (-1)) (.int .i64 (-1)) (.int .i64 kk) (.slice on nv.length cn) (.int .i64 p) (.slice ol lf.length cl) (.slice orr rt.length cr))
      have HSQ := Lib.hid (set8_size W7 n2 (.int .i64 (-1)) (.int .i64 (-1)) (.int .i64 (-1)) (.int .i64 kk) (.slice on nv.length cn) (.int .i64 p) (.slice ol lf.length cl) (.slice orr rt.length cr))
      have h22 := HN2.out
      have HGF := Lib.hid (grown_low2 (grown_trans HG3.out HG7.out) (set8_below W7 n2 W.heap.size (Nat.le_of_eq h22.symm) (.int .i64 (-1)) (.int .i64 (-1)) (.int .i64 (-1)) (.int .i64 kk) (.slice on nv.length cn) (.int .i64 p) (.slice ol lf.length cl) (.slice orr rt.length cr)) (Nat.le_refl _))
      clear hx2 h22
      go_wp2
      generalize ((((((((W7.setCell ⟨n2, 0, none⟩ (.int .i64 (-1))).setCell ⟨n2, 1, none⟩ (.int .i64 (-1))).setCell ⟨n2, 2, none⟩ (.int .i64 (-1))).setCell ⟨n2, 3, none⟩ (.int .i64 kk)).setCell ⟨n2, 4, none⟩ (.slice on nv.length cn)).setCell ⟨n2, 5, none⟩ (.int .i64 p)).setCell ⟨n2, 6, none⟩ (.slice ol lf.length cl)).setCell ⟨n2, 7, none⟩ (.slice orr rt.length cr)) = W9 at HXF HBK HSQ HGF ⊢
      have c0 := HXF.out.c 0 _ rfl
      have c1 := HXF.out.c 1 _ rfl
      have c2 := HXF.out.c 2 _ rfl
      have c3 := HXF.out.c 3 _ rfl
      have c4 := HXF.out.c 4 _ rfl
      have c5 := HXF.out.c 5 _ rfl
      have c6 := HXF.out.c 6 _ rfl
      have c7 := HXF.out.c 7 _ rfl
      refine bodyPost_ret (v := .agg #[.int .i64 (-1), .int .i64 (-1), .int .i64 (-1), .int .i64 kk, .slice on nv.length cn, .int .i64 p, .slice ol lf.length cl, .slice orr rt.length cr]) (by simp [results, Tryz.results71, go_sem, c0, c1, c2, c3, c4, c5, c6, c7]) rfl ?_
      have hn2o := HN2.out
      have hz6 := HZ6.out
      have hz9 := HSQ.out
      have hz5 := HG5.out.size
      have hz4 := HG4.out.size
      have hz3 := HG3.out.size
      refine RdP.mk (x := ⟨-1, -1, -1, ⟨kk, nv, p, lf, rt⟩⟩) HOT.out (fun W' hW' => ?_) ?_ HGF.out
      ·have hne : ∀ j, W3.heap.size ≤ j → j < W6.heap.size → j ≠ n6 → W'.heap[j]? = W6.heap[j]? := fun j h1 h2 h3 => by
        rw [hW' j ⟨by omega, by omega⟩, HBK.out j (by omega), HK6.out j h3]
       have q1 := HN4.out W' fun j hj => by
        have h3 : j ≠ n6 := fun e => hj.2.2 (by rw [e])
        rw [hne j hj.1 (Nat.lt_of_lt_of_le hj.2.1 hz5) h3]
        exact HG5.out.block j hj.2.1 (by intro e; injection e with e; have := hj.1; omega)
       obtain ⟨ol', cl', orr', cr', e, s1, s2⟩ := HN6.out W' fun j hj => hne j (Nat.le_trans hz4 hj.1) hj.2 (by have := hj.1; omega)
       injection e with e
       have e1 := congrArg (fun x => x[1]?) e
       have e2 := congrArg (fun x => x[2]?) e
       simp at e1 e2
       obtain ⟨rfl, rfl⟩ := e1
       obtain ⟨rfl, rfl⟩ := e2
       exact ⟨on, _, _, cn, _, _, rfl, q1, s1, s2⟩
      ·obtain ⟨⟨s', hs1, hs2, hs3⟩, hs4⟩ := HS6.out
       exact ⟨⟨s', ⟨(HBK.out b (by omega)).trans ((HK6.out b (by omega)).trans hs1.h)⟩, hs2, hs3⟩, hs4⟩
    ·have hkd : (kk == 2) = false := by simpa using hk2
     have hkd2 : decide (kk = 2) = false := decide_eq_false hk2
     have HOT := Lib.hid (HOL.out.symm.trans (Fm.rdLeaf_yes2 HQ.out HCN.out HR.out hk2))
     have m1 := HX6.out.c 1 _ rfl
     have m2 := HX6.out.c 2 _ rfl
     have m3 := HX6.out.c 3 _ rfl
     have m4 := HX6.out.c 4 _ rfl
     have hx2 := HX23.out.grown HG4.out (by omega)
     obtain ⟨y0, z0, y1, z1, y2, z2, y3, z3, y4, z4, y5, z5, y6, z6, y7, z7⟩ := facts8 hx2 (.int .i64 (-1)) (.int .i64 (-1)) (.int .i64 (-1)) (.int .i64 kk) (.slice on nv.length cn) (.int .i64 0) (.slice none 0 0)
     have yl := hx2.lt
     have HXF := Lib.hid (st8 hx2 (.int .i64 (-1)) (.int .i64 (-1)) (.int .i64 (-1)) (.int .i64 kk) (.slice on nv.length cn) (.int .i64 0) (.slice none 0 0) (.slice none 0 0))
     have HBK := Lib.hid (set8_blk w n2 (.int .i64 (-1)) (.int .i64 (-1)) (.int .i64 (-1)) (.int .i64 kk) (.slice on nv.length cn) (.int .i64 0) (.slice none 0 0) (.slice none 0 0))
     have HSQ := Lib.hid (set8_size w n2 (.int .i64 (-1)) (.int .i64 (-1)) (.int .i64 (-1)) (.int .i64 kk) (.slice on nv.length cn) (.int .i64 0) (.slice none 0 0) (.slice none 0 0))
     have h22 := HN2.out
     have HGF := Lib.hid (grown_low2 (grown_trans HG3.out HG4.out) (set8_below w n2 W.heap.size (Nat.le_of_eq h22.symm) (.int .i64 (-1)) (.int .i64 (-1)) (.int .i64 (-1)) (.int .i64 kk) (.slice on nv.length cn) (.int .i64 0) (.slice none 0 0) (.slice none 0 0)) (Nat.le_refl _))
     clear hx2 h22 hk2
     go_wp2
     generalize ((((((((w.setCell ⟨n2, 0, none⟩ (.int .i64 (-1))).setCell ⟨n2, 1, none⟩ (.int .i64 (-1))).setCell ⟨n2, 2, none⟩ (.int .i64 (-1))).setCell ⟨n2, 3, none⟩ (.int .i64 kk)).setCell ⟨n2, 4, none⟩ (.slice on nv.length cn)).setCell ⟨n2, 5, none⟩ (.int .i64 0)).setCell ⟨n2, 6, none⟩ (.slice none 0 0)).setCell ⟨n2, 7, none⟩ (.slice none 0 0)) = W9 at HXF HBK HSQ HGF ⊢
     have c0 := HXF.out.c 0 _ rfl
     have c1 := HXF.out.c 1 _ rfl
     have c2 := HXF.out.c 2 _ rfl
     have c3 := HXF.out.c 3 _ rfl
     have c4 := HXF.out.c 4 _ rfl
     have c5 := HXF.out.c 5 _ rfl
     have c6 := HXF.out.c 6 _ rfl
     have c7 := HXF.out.c 7 _ rfl
     refine bodyPost_ret (v := .agg #[.int .i64 (-1), .int .i64 (-1), .int .i64 (-1), .int .i64 kk, .slice on nv.length cn, .int .i64 0, .slice none 0 0, .slice none 0 0]) (by simp [results, Tryz.results71, go_sem, c0, c1, c2, c3, c4, c5, c6, c7]) rfl ?_
     have hn2o := HN2.out
     have hz9 := HSQ.out
     have hz3 := HG3.out.size
     refine RdP.mk (x := ⟨-1, -1, -1, ⟨kk, nv, 0, [], []⟩⟩) HOT.out (fun W' hW' => ?_) ?_ HGF.out
     ·have q1 := HN4.out W' fun j hj => by
       have h1 := hj.1
       have h2 := hj.2.1
       rw [hW' j ⟨by omega, by omega⟩, HBK.out j (by omega)]
      exact ⟨on, none, none, cn, 0, 0, rfl, q1, fun h => absurd rfl h, fun h => absurd rfl h⟩
     ·obtain ⟨⟨s', hs1, hs2, hs3⟩, hs4⟩ := HS4.out
      exact ⟨⟨s', ⟨(HBK.out b (by omega)).trans hs1.h⟩, hs2, hs3⟩, hs4⟩
end Go.Proofs.Ng
