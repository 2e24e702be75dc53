/-
  Texts put together: Ta Tb Tc.
-/
import Derived.Test.YthcmkpcefiiiaaaGreatDoorZFormatCanonicalCard8
import Derived.Test.YthcmkpcefiiiaaaGreatDoorZFormatCanonicalCard9
set_option linter.unusedVariables false
section
/-
 Walks: intervals and cells: the small functions of trees.
-/
namespace Go.Proofs.Ng
open Go.RowKit
/-- The cells of an interval, of a cell. -/
def iv2 (a : Int × Int) : List Value := [.int .i64 a.1, .int .i64 a.2]
def ivs (b : Fm.BoxD) : List (List Value) := b.map iv2
theorem b_no {p : Prop} [Decidable p] (h : ¬ p) : decide p = false := decide_eq_false h
theorem b_yes {p : Prop} [Decidable p] (h : p) : decide p = true := decide_eq_true h
theorem b_iff {p q : Prop} [Decidable p] [Decidable q] (h : p ↔ q) : decide p = decide q := decide_eq_decide.2 h
def celV (c : Fm.CellD) (on ol or : Option Addr) (cn cl cr : Nat) : List Value := [.int .i64 c.joint, .int .i64 c.low, .int .i64 c.high, .int .i64 c.verd.kind, .slice on c.verd.normals.length cn, .int .i64 c.verd.pair, .slice ol c.verd.left.length cl, .slice or c.verd.right.length cr]
set_option maxRecDepth 100000 in
set_option maxHeartbeats 2000000 in
theorem valid89 (a b : Int) (w : World) : Calls Tryz.prog 89 #[.agg #[.int .i64 a, .int .i64 b]] w (BoolP (Fm.validI (a, b)) w) := by
 go_enter Tryz.func89, Tryz.ntmps89
 go_wp2
 all_goals go_ret
 all_goals refine boolP_mk ?_ ((Below.refl _ _).alloc (Nat.le_refl _) _)
 all_goals (first | exact b_no (by omega) | exact b_yes (by omega) | exact b_iff (by omega) | (simp_all [Fm.emptyB] <;> cases v.right <;> simp <;> omega))
set_option maxRecDepth 100000 in
set_option maxHeartbeats 2000000 in
theorem valid116 (a b : Int) (w : World) : Calls Tryz.prog 116 #[.agg #[.int .i64 a, .int .i64 b]] w (BoolP (Fm.validI (a, b)) w) := by
 go_enter Tryz.func116, Tryz.ntmps116
 go_wp2
 all_goals go_ret
 all_goals refine boolP_mk ?_ ((Below.refl _ _).alloc (Nat.le_refl _) _)
 all_goals (first | exact b_no (by omega) | exact b_yes (by omega) | exact b_iff (by omega) | (simp_all [Fm.emptyB] <;> cases v.right <;> simp <;> omega))
set_option maxRecDepth 100000 in
set_option maxHeartbeats 2000000 in
theorem leaf90 (c : Fm.CellD) (on ol or : Option Addr) (cn cl cr : Nat) (w : World) : Calls Tryz.prog 90 #[.agg #[.int .i64 c.joint, .int .i64 c.low, .int .i64 c.high, .int .i64 c.verd.kind, .slice on c.verd.normals.length cn, .int .i64 c.verd.pair, .slice ol c.verd.left.length cl, .slice or c.verd.right.length cr]] w (BoolP (Fm.leafB c) w) := by
 go_enter Tryz.func90, Tryz.ntmps90
 go_wp2
 all_goals go_ret
 all_goals refine boolP_mk ?_ ((Below.refl _ _).alloc (Nat.le_refl _) _)
 all_goals (first | exact b_no (by omega) | exact b_yes (by omega) | exact b_iff (by omega) | (simp_all [Fm.emptyB] <;> cases v.right <;> simp <;> omega))
set_option maxRecDepth 100000 in
set_option maxHeartbeats 2000000 in
theorem leaf101 (c : Fm.CellD) (on ol or : Option Addr) (cn cl cr : Nat) (w : World) : Calls Tryz.prog 101 #[.agg #[.int .i64 c.joint, .int .i64 c.low, .int .i64 c.high, .int .i64 c.verd.kind, .slice on c.verd.normals.length cn, .int .i64 c.verd.pair, .slice ol c.verd.left.length cl, .slice or c.verd.right.length cr]] w (BoolP (Fm.leafB c) w) := by
 go_enter Tryz.func101, Tryz.ntmps101
 go_wp2
 all_goals go_ret
 all_goals refine boolP_mk ?_ ((Below.refl _ _).alloc (Nat.le_refl _) _)
 all_goals (first | exact b_no (by omega) | exact b_yes (by omega) | exact b_iff (by omega) | (simp_all [Fm.emptyB] <;> cases v.right <;> simp <;> omega))
set_option maxRecDepth 100000 in
set_option maxHeartbeats 2000000 in
theorem empty106 (v : Fm.VerdD) (ol or : Option Addr) (cl cr : Nat) (w : World) : Calls Tryz.prog 106 #[.agg #[.int .i64 v.pair, .slice ol v.left.length cl, .slice or v.right.length cr]] w (BoolP (Fm.emptyB v) w) := by
 go_enter Tryz.func106, Tryz.ntmps106
 go_wp2
 all_goals go_ret
 all_goals refine boolP_mk ?_ ((Below.refl _ _).alloc (Nat.le_refl _) _)
 all_goals (first | exact b_no (by omega) | exact b_yes (by omega) | exact b_iff (by omega) | (simp_all [Fm.emptyB] <;> cases v.right <;> simp <;> omega))
set_option maxRecDepth 100000 in
set_option maxHeartbeats 2000000 in
theorem empty117 (v : Fm.VerdD) (ol or : Option Addr) (cl cr : Nat) (w : World) : Calls Tryz.prog 117 #[.agg #[.int .i64 v.pair, .slice ol v.left.length cl, .slice or v.right.length cr]] w (BoolP (Fm.emptyB v) w) := by
 go_enter Tryz.func117, Tryz.ntmps117
 go_wp2
 all_goals go_ret
 all_goals refine boolP_mk ?_ ((Below.refl _ _).alloc (Nat.le_refl _) _)
 all_goals (first | exact b_no (by omega) | exact b_yes (by omega) | exact b_iff (by omega) | (simp_all [Fm.emptyB] <;> cases v.right <;> simp <;> omega))
set_option maxRecDepth 100000 in
set_option maxHeartbeats 2000000 in
theorem form91 (v : Fm.VerdD) (on ol or : Option Addr) (cn cl cr : Nat) (w : World) : Calls Tryz.prog 91 #[.agg #[.int .i64 v.kind, .slice on v.normals.length cn, .int .i64 v.pair, .slice ol v.left.length cl, .slice or v.right.length cr]] w (BoolP (Fm.formB v) w) := by
 by_cases h0 : v.kind = 0
 ·have e1 : Fm.formB v = Fm.emptyB v := by simp [Fm.formB, h0]
  go_enter Tryz.func91, Tryz.ntmps91
  go_wp2_with fail
  refine (empty106 v ol or cl cr _).mono ?_
  rintro e W1 ⟨rfl, hw⟩
  go_wp2
  go_ret
  exact boolP_mk e1 (((Below.refl _ _).alloc (Nat.le_refl _) _).trans (hw.mono (by simp)))
 ·by_cases h1 : v.kind = 1
  ·have e1 : Fm.formB v = Fm.emptyB v := by simp [Fm.formB, h1]
   go_enter Tryz.func91, Tryz.ntmps91
   go_wp2_with fail
   refine (empty106 v ol or cl cr _).mono ?_
   rintro e W1 ⟨rfl, hw⟩
   go_wp2
   go_ret
   exact boolP_mk e1 (((Below.refl _ _).alloc (Nat.le_refl _) _).trans (hw.mono (by simp)))
  ·by_cases h2 : v.kind = 2
   ·have e1 : Fm.formB v = decide (v.normals.length = 0) := by simp [Fm.formB, h2]
    go_enter Tryz.func91, Tryz.ntmps91
    go_wp2
    all_goals go_ret
    all_goals refine boolP_mk (e1.trans ?_) ((Below.refl _ _).alloc (Nat.le_refl _) _)
    all_goals (first | exact b_no (by omega) | exact b_yes (by omega) | exact b_iff (by omega) | simp_all)
   ·have e1 : Fm.formB v = false := by simp [Fm.formB, h0, h1, h2]
    go_enter Tryz.func91, Tryz.ntmps91
    go_wp2
    go_ret
    exact boolP_mk e1 ((Below.refl _ _).alloc (Nat.le_refl _) _)
set_option maxRecDepth 100000 in
set_option maxHeartbeats 2000000 in
theorem form102 (v : Fm.VerdD) (on ol or : Option Addr) (cn cl cr : Nat) (w : World) : Calls Tryz.prog 102 #[.agg #[.int .i64 v.kind, .slice on v.normals.length cn, .int .i64 v.pair, .slice ol v.left.length cl, .slice or v.right.length cr]] w (BoolP (Fm.formB v) w) := by
 by_cases h0 : v.kind = 0
 ·have e1 : Fm.formB v = Fm.emptyB v := by simp [Fm.formB, h0]
  go_enter Tryz.func102, Tryz.ntmps102
  go_wp2_with fail
  refine (empty117 v ol or cl cr _).mono ?_
  rintro e W1 ⟨rfl, hw⟩
  go_wp2
  go_ret
  exact boolP_mk e1 (((Below.refl _ _).alloc (Nat.le_refl _) _).trans (hw.mono (by simp)))
 ·by_cases h1 : v.kind = 1
  ·have e1 : Fm.formB v = Fm.emptyB v := by simp [Fm.formB, h1]
   go_enter Tryz.func102, Tryz.ntmps102
   go_wp2_with fail
   refine (empty117 v ol or cl cr _).mono ?_
   rintro e W1 ⟨rfl, hw⟩
   go_wp2
   go_ret
   exact boolP_mk e1 (((Below.refl _ _).alloc (Nat.le_refl _) _).trans (hw.mono (by simp)))
  ·by_cases h2 : v.kind = 2
   ·have e1 : Fm.formB v = decide (v.normals.length = 0) := by simp [Fm.formB, h2]
    go_enter Tryz.func102, Tryz.ntmps102
    go_wp2
    all_goals go_ret
    all_goals refine boolP_mk (e1.trans ?_) ((Below.refl _ _).alloc (Nat.le_refl _) _)
    all_goals (first | exact b_no (by omega) | exact b_yes (by omega) | exact b_iff (by omega) | simp_all)
   ·have e1 : Fm.formB v = false := by simp [Fm.formB, h0, h1, h2]
    go_enter Tryz.func102, Tryz.ntmps102
    go_wp2
    go_ret
    exact boolP_mk e1 ((Below.refl _ _).alloc (Nat.le_refl _) _)
set_option maxRecDepth 100000 in
set_option maxHeartbeats 2000000 in
theorem zero92 (v : Fm.VerdD) (on ol or : Option Addr) (cn cl cr : Nat) (w : World) : Calls Tryz.prog 92 #[.agg #[.int .i64 v.kind, .slice on v.normals.length cn, .int .i64 v.pair, .slice ol v.left.length cl, .slice or v.right.length cr]] w (BoolP (Fm.zeroB v) w) := by
 by_cases h0 : v.kind = 0
 ·by_cases h1 : v.normals.length = 0
  ·have e1 : Fm.zeroB v = Fm.emptyB v := by simp [Fm.zeroB, h0, h1]
   have h1b : ((v.normals.length : Int) == 0) = true := by simp; exact List.eq_nil_of_length_eq_zero h1
   clear h1
   go_enter Tryz.func92, Tryz.ntmps92
   go_wp2_with fail
   refine (empty106 v ol or cl cr _).mono ?_
   rintro e W1 ⟨rfl, hw⟩
   go_wp2
   go_ret
   exact boolP_mk e1 (((Below.refl _ _).alloc (Nat.le_refl _) _).trans (hw.mono (by simp)))
  ·have e1 : Fm.zeroB v = false := by simp only [Fm.zeroB, h1]; simp
   have h1b : ((v.normals.length : Int) == 0) = false := by simp; intro h; rw [h] at h1; exact h1 rfl
   clear h1
   go_enter Tryz.func92, Tryz.ntmps92
   go_wp2
   go_ret
   exact boolP_mk e1 ((Below.refl _ _).alloc (Nat.le_refl _) _)
 ·have e1 : Fm.zeroB v = false := by simp [Fm.zeroB, h0]
  go_enter Tryz.func92, Tryz.ntmps92
  go_wp2
  go_ret
  exact boolP_mk e1 ((Below.refl _ _).alloc (Nat.le_refl _) _)
set_option maxRecDepth 100000 in
set_option maxHeartbeats 2000000 in
theorem zero103 (v : Fm.VerdD) (on ol or : Option Addr) (cn cl cr : Nat) (w : World) : Calls Tryz.prog 103 #[.agg #[.int .i64 v.kind, .slice on v.normals.length cn, .int .i64 v.pair, .slice ol v.left.length cl, .slice or v.right.length cr]] w (BoolP (Fm.zeroB v) w) := by
 by_cases h0 : v.kind = 0
 ·by_cases h1 : v.normals.length = 0
  ·have e1 : Fm.zeroB v = Fm.emptyB v := by simp [Fm.zeroB, h0, h1]
   have h1b : ((v.normals.length : Int) == 0) = true := by simp; exact List.eq_nil_of_length_eq_zero h1
   clear h1
   go_enter Tryz.func103, Tryz.ntmps103
   go_wp2_with fail
   refine (empty117 v ol or cl cr _).mono ?_
   rintro e W1 ⟨rfl, hw⟩
   go_wp2
   go_ret
   exact boolP_mk e1 (((Below.refl _ _).alloc (Nat.le_refl _) _).trans (hw.mono (by simp)))
  ·have e1 : Fm.zeroB v = false := by simp only [Fm.zeroB, h1]; simp
   have h1b : ((v.normals.length : Int) == 0) = false := by simp; intro h; rw [h] at h1; exact h1 rfl
   clear h1
   go_enter Tryz.func103, Tryz.ntmps103
   go_wp2
   go_ret
   exact boolP_mk e1 ((Below.refl _ _).alloc (Nat.le_refl _) _)
 ·have e1 : Fm.zeroB v = false := by simp [Fm.zeroB, h0]
  go_enter Tryz.func103, Tryz.ntmps103
  go_wp2
  go_ret
  exact boolP_mk e1 ((Below.refl _ _).alloc (Nat.le_refl _) _)
end Go.Proofs.Ng
end

section
/-
 Walks: middles, widths, lists of intervals that are valid.
-/
namespace Go.Proofs.Ng
open Go.RowKit
theorem validI_un {a b : Int} (h : Fm.validI (a, b) = true) : -2147483648 ≤ a ∧ a ≤ b ∧ b ≤ 2147483648 := of_decide_eq_true h
theorem tdiv_two (x : Int) : (x.tmod 2 < 0 → x.tdiv 2 = x / 2 + 1) ∧ (¬ x.tmod 2 < 0 → x.tdiv 2 = x / 2) := by
 have e := Int.mul_tdiv_add_tmod x 2
 refine ⟨fun h => ?_, fun h => ?_⟩
 ·have := tmod_neg x 2 (by omega) h
  omega
 ·have := tmod_nn x 2 (by omega) (by omega)
  omega
set_option maxRecDepth 100000 in
set_option maxHeartbeats 2000000 in
theorem floor122 (x : Int) (w : World) (h1 : -4294967296 ≤ x) (h2 : x ≤ 4294967296) : Calls Tryz.prog 122 #[.int .i64 x, .int .i64 2] w (fun e W => e = .returned (.int .i64 (x / 2)) ∧ Below w.heap.size w W) := by
 have e := Int.mul_tdiv_add_tmod x 2
 have hd := tdiv_two x
 have hm : -2 < x.tmod 2 ∧ x.tmod 2 < 2 := by
  by_cases h : x.tmod 2 < 0
  ·have := tmod_neg x 2 (by omega) h; omega
  ·have := tmod_nn x 2 (by omega) (by omega); omega
 have hq : IntKind.i64.wrap (x.tdiv 2) = x.tdiv 2 := IntWalk.i64_in _ (by omega)
 have hr : IntKind.i64.wrap (x.tmod 2) = x.tmod 2 := IntWalk.i64_in _ (by omega)
 have hs : IntKind.i64.wrap (x.tdiv 2 - 1) = x.tdiv 2 - 1 := IntWalk.i64_in _ (by omega)
 clear e hm
 go_enter Tryz.func122, Tryz.ntmps122
 go_wp2
 all_goals go_ret
 ·exact ⟨ret_int (by first | rfl | (have := hd.1 (by assumption); omega)), Below.refl _ _⟩
 ·exact ⟨ret_int (by first | rfl | exact hd.2 (by assumption)), Below.refl _ _⟩
set_option maxRecDepth 100000 in
set_option maxHeartbeats 2000000 in
theorem down136 (x : Int) (w : World) : Calls Tryz.prog 136 #[.int .i64 x, .int .i64 1] w (fun e W => e = .returned (.int .i64 (x / 2)) ∧ Below w.heap.size w W) := by
 go_enter Tryz.func136, Tryz.ntmps136
 go_wp2
 go_ret
 exact ⟨rfl, Below.refl _ _⟩
set_option maxRecDepth 100000 in
set_option maxHeartbeats 2000000 in
theorem mid108 (a b : Int) (w : World) (h : Fm.validI (a, b) = true) : Calls Tryz.prog 108 #[.agg #[.int .i64 a, .int .i64 b]] w (fun e W => e = .returned (.int .i64 ((a + b) / 2)) ∧ Below w.heap.size w W) := by
 have hv := validI_un h
 have hs : IntKind.i64.wrap (a + b) = a + b := IntWalk.i64_in _ (by omega)
 have hh : Hid (Fm.validI (a, b) = true) := Lib.hid h
 have hv2 := Lib.hid hv
 clear h hv
 go_enter Tryz.func108, Tryz.ntmps108
 go_wp2_with fail
 refine (valid89 a b _).mono ?_
 rintro e W1 ⟨rfl, hw⟩
 rw [hh.out]
 have hB : Bx (w.alloc (.cells #[.int .i64 a, .int .i64 b] 79)) w.heap.size [.int .i64 a, .int .i64 b] 79 := Bx.new w _ _
 replace hB := hB.keep hw
 have hb : Below w.heap.size w W1 := ((Below.refl _ _).alloc (Nat.le_refl _) _).trans (hw.mono (by simp))
 clear hw
 have c0 := hB.c 0 _ rfl
 have c1 := hB.c 1 _ rfl
 have lt := hB.lt
 go_wp2_with fail
 refine (floor122 (a + b) _ (by have := hv2.out; omega) (by have := hv2.out; omega)).mono ?_
 rintro e W2 ⟨rfl, hw2⟩
 go_wp2
 go_ret
 exact ⟨rfl, hb.trans (hw2.mono hb.size)⟩
set_option maxRecDepth 100000 in
set_option maxHeartbeats 2000000 in
theorem mid120 (a b : Int) (w : World) (h : Fm.validI (a, b) = true) : Calls Tryz.prog 120 #[.agg #[.int .i64 a, .int .i64 b]] w (fun e W => e = .returned (.int .i64 ((a + b) / 2)) ∧ Below w.heap.size w W) := by
 have hv := validI_un h
 have hs : IntKind.i64.wrap (a + b) = a + b := IntWalk.i64_in _ (by omega)
 have hh : Hid (Fm.validI (a, b) = true) := Lib.hid h
 have hv2 := Lib.hid hv
 clear h hv
 go_enter Tryz.func120, Tryz.ntmps120
 go_wp2_with fail
 refine (valid116 a b _).mono ?_
 rintro e W1 ⟨rfl, hw⟩
 rw [hh.out]
 have hB : Bx (w.alloc (.cells #[.int .i64 a, .int .i64 b] 79)) w.heap.size [.int .i64 a, .int .i64 b] 79 := Bx.new w _ _
 replace hB := hB.keep hw
 have hb : Below w.heap.size w W1 := ((Below.refl _ _).alloc (Nat.le_refl _) _).trans (hw.mono (by simp))
 clear hw
 have c0 := hB.c 0 _ rfl
 have c1 := hB.c 1 _ rfl
 have lt := hB.lt
 go_wp2_with fail
 refine (down136 (a + b) _).mono ?_
 rintro e W2 ⟨rfl, hw2⟩
 go_wp2
 go_ret
 exact ⟨rfl, hb.trans (hw2.mono hb.size)⟩
set_option maxRecDepth 100000 in
set_option maxHeartbeats 2000000 in
theorem width119 (a b : Int) (w : World) (h : Fm.validI (a, b) = true) : Calls Tryz.prog 119 #[.agg #[.int .i64 a, .int .i64 b]] w (fun e W => e = .returned (.int .i64 (b - a)) ∧ Below w.heap.size w W) := by
 have hv := validI_un h
 have hs : IntKind.i64.wrap (b - a) = b - a := IntWalk.i64_in _ (by omega)
 have hh : Hid (Fm.validI (a, b) = true) := Lib.hid h
 clear h hv
 go_enter Tryz.func119, Tryz.ntmps119
 go_wp2_with fail
 refine (valid116 a b _).mono ?_
 rintro e W1 ⟨rfl, hw⟩
 rw [hh.out]
 have hB : Bx (w.alloc (.cells #[.int .i64 a, .int .i64 b] 79)) w.heap.size [.int .i64 a, .int .i64 b] 79 := Bx.new w _ _
 replace hB := hB.keep hw
 have hb : Below w.heap.size w W1 := ((Below.refl _ _).alloc (Nat.le_refl _) _).trans (hw.mono (by simp))
 clear hw
 have c0 := hB.c 0 _ rfl
 have c1 := hB.c 1 _ rfl
 have lt := hB.lt
 go_wp2
 go_ret
 exact ⟨rfl, hb⟩
set_option maxRecDepth 100000 in
set_option maxHeartbeats 2000000 in
theorem not135 (a b : Int) (w : World) : Calls Tryz.prog 135 #[.agg #[.int .i64 a, .int .i64 b]] w (BoolP (! Fm.validI (a, b)) w) := by
 go_enter Tryz.func135, Tryz.ntmps135
 go_wp2_with fail
 refine (valid116 a b _).mono ?_
 rintro e W1 ⟨rfl, hw⟩
 go_wp2
 go_ret
 exact boolP_mk rfl (((Below.refl _ _).alloc (Nat.le_refl _) _).trans (hw.mono (by simp)))
end Go.Proofs.Ng
end

section
/-
 Walks: lists of intervals that are valid.
-/
namespace Go.Proofs.Ng
open Go.RowKit
theorem iv_get {W : World} {oa : Option Addr} {l : Fm.BoxD} (h : Sl W oa 2 (ivs l)) {k : Nat} {v : Int × Int} (hk : l[k]? = some v) :
  ∃ b off, oa = some ⟨b, off, none⟩ ∧ b < W.heap.size ∧ W.cell? ⟨b, off + k * 2, none⟩ = some (.int .i64 v.1) ∧ W.cell? ⟨b, off + k * 2 + 1, none⟩ = some (.int .i64 v.2) := by
 have hr : (ivs l)[k]? = some (iv2 v) := by simp [ivs, hk]
 obtain ⟨b, off, e, ha⟩ := h (by intro e; rw [e] at hr; simp at hr)
 exact ⟨b, off, e, ha.lt, ha.c k _ hr 0 _ rfl, ha.c k _ hr 1 _ rfl⟩
theorem all_yes {b : Fm.BoxD} (h : ∀ j v, j < b.length → b[j]? = some v → Fm.validI v = true) : b.all Fm.validI = true := by
 rw [List.all_eq_true]
 intro x hx
 obtain ⟨j, hj⟩ := List.getElem?_of_mem hx
 exact h j x (List.getElem?_eq_some_iff.1 hj).1 hj
theorem all_no {b : Fm.BoxD} {j : Nat} {v : Int × Int} (hj : b[j]? = some v) (h : Fm.validI v = false) : b.all Fm.validI = false := by
 rw [List.all_eq_false]
 exact ⟨v, List.mem_of_getElem? hj, by rw [h]; decide⟩
set_option maxRecDepth 100000 in
set_option maxHeartbeats 4000000 in
theorem allValid107 (w : World) (o : Option Addr) (cap : Nat) (b : Fm.BoxD) (h : Sl w o 2 (ivs b)) (hn : b.length ≤ 1000000000) : Calls Tryz.prog 107 #[.slice o b.length cap] w (BoolP (b.all Fm.validI) w) := by
 have H0 := Lib.hid h
 clear h
 go_enter Tryz.func107, Tryz.ntmps107
 go_wp2_with fail
 go_loopw [3] (fun i W => ∃ k : Nat, k ≤ b.length ∧ i = .int .i64 (k : Nat) ∧ (∀ j v, j < k → b[j]? = some v → Fm.validI v = true) ∧ Below w.heap.size w W) (fun i _ => b.length - (intOf i).toNat)
 case atStart => exact ⟨0, Nat.zero_le _, rfl, fun j v hj => by omega, Below.refl _ _⟩
 case round =>
  obtain ⟨k, hk, rfl, hA, hB⟩ := hrel
  by_cases hlt : k < b.length
  ·obtain ⟨v, hv⟩ : ∃ v, b[k]? = some v := ⟨_, List.getElem?_eq_getElem hlt⟩
   obtain ⟨g, off, ho, glt, x0, x1⟩ := iv_get (H0.out.keep hB) hv
   subst ho
   have HV := Lib.hid hv
   have HA := Lib.hid hA
   clear hv hA
   go_wp2_with fail
   refine (valid89 v.1 v.2 _).mono ?_
   rintro e W1 ⟨rfl, hw⟩
   have hB1 := hB.trans (hw.mono hB.size)
   clear hw
   cases hq : Fm.validI (v.1, v.2) with
   | true =>
    go_wp2_with fail
    go_roundw
    case rel =>
     refine ⟨k + 1, by omega, by simp, fun j x hj hx => ?_, hB1⟩
     rcases Nat.lt_or_ge j k with h | h
     ·exact HA.out j x h hx
     ·have : j = k := by omega
      subst this
      rw [HV.out] at hx
      injection hx with hx
      rw [← hx]; exact hq
    case measure => simp [intOf]; omega
   | false =>
    go_wp2
    go_ret
    exact boolP_mk (all_no HV.out hq) hB1
  ·have hke : k = b.length := by omega
   subst hke
   have e1 := all_yes hA
   go_wp2
   go_ret
   exact boolP_mk e1 hB
set_option maxRecDepth 100000 in
set_option maxHeartbeats 4000000 in
theorem index152 (w : World) (o : Option Addr) (cap : Nat) (b : Fm.BoxD) (h : Sl w o 2 (ivs b)) (hn : b.length ≤ 1000000000) : Calls Tryz.prog 152 #[.slice o b.length cap, .func (.func 135) #[] #[]] w (fun e W => (∃ n, e = .returned (.int .i64 n) ∧ -9223372036854775808 ≤ n ∧ n ≤ 9223372036854775807 ∧ (decide (0 ≤ n) = ! b.all Fm.validI)) ∧ Below w.heap.size w W) := by
 have H0 := Lib.hid h
 clear h
 go_enter Tryz.func152, Tryz.ntmps152
 go_wp2_with fail
 go_loopw [8] (fun i W => ∃ k : Nat, k ≤ b.length ∧ i = .int .i64 (k : Nat) ∧ (∀ j v, j < k → b[j]? = some v → Fm.validI v = true) ∧ Below w.heap.size w W) (fun i _ => b.length - (intOf i).toNat)
 case atStart => exact ⟨0, Nat.zero_le _, rfl, fun j v hj => by omega, Below.refl _ _⟩
 case round =>
  obtain ⟨k, hk, rfl, hA, hB⟩ := hrel
  by_cases hlt : k < b.length
  ·obtain ⟨v, hv⟩ : ∃ v, b[k]? = some v := ⟨_, List.getElem?_eq_getElem hlt⟩
   obtain ⟨g, off, ho, glt, x0, x1⟩ := iv_get (H0.out.keep hB) hv
   subst ho
   have HV := Lib.hid hv
   have HA := Lib.hid hA
   clear hv hA
   go_wp2_with fail
   refine (not135 v.1 v.2 _).mono ?_
   rintro e W1 ⟨rfl, hw⟩
   have hB1 := hB.trans (hw.mono hB.size)
   clear hw
   cases hq : Fm.validI (v.1, v.2) with
   | true =>
    go_wp2_with fail
    go_roundw
    case rel =>
     refine ⟨k + 1, by omega, by simp, fun j x hj hx => ?_, hB1⟩
     rcases Nat.lt_or_ge j k with h | h
     ·exact HA.out j x h hx
     ·have : j = k := by omega
      subst this
      rw [HV.out] at hx
      injection hx with hx
      rw [← hx]; exact hq
    case measure => simp [intOf]; omega
   | false =>
    go_wp2
    go_ret
    exact ⟨⟨_, rfl, by omega, by omega, by rw [all_no HV.out hq]; simp⟩, hB1⟩
  ·have hke : k = b.length := by omega
   subst hke
   have e1 := all_yes hA
   go_wp2
   go_ret
   exact ⟨⟨_, rfl, by omega, by omega, by rw [e1]; simp⟩, hB⟩
set_option maxRecDepth 100000 in
set_option maxHeartbeats 4000000 in
theorem contains134 (w : World) (o : Option Addr) (cap : Nat) (b : Fm.BoxD) (h : Sl w o 2 (ivs b)) (hn : b.length ≤ 1000000000) : Calls Tryz.prog 134 #[.slice o b.length cap, .func (.func 135) #[] #[]] w (BoolP (! b.all Fm.validI) w) := by
 have H0 := Lib.hid (index152 w o cap b h hn)
 clear h
 go_enter Tryz.func134, Tryz.ntmps134
 go_wp2_with fail
 refine H0.out.mono ?_
 rintro e W1 ⟨⟨n, rfl, h1, h2, h3⟩, hw⟩
 have h3b := Lib.hid h3
 clear h3
 go_wp2
 go_ret
 exact boolP_mk (by simpa using h3b.out.symm) hw
set_option maxRecDepth 100000 in
set_option maxHeartbeats 4000000 in
theorem valid118 (w : World) (o : Option Addr) (cap : Nat) (b : Fm.BoxD) (h : Sl w o 2 (ivs b)) (hn : b.length ≤ 1000000000) : Calls Tryz.prog 118 #[.slice o b.length cap] w (BoolP (b.all Fm.validI) w) := by
 have H0 := Lib.hid (contains134 w o cap b h hn)
 clear h
 go_enter Tryz.func118, Tryz.ntmps118
 go_wp2_with fail
 refine H0.out.mono ?_
 rintro e W1 ⟨rfl, hw⟩
 go_wp2
 go_ret
 exact boolP_mk (by simp) hw
def rootB (b : Fm.BoxD) : Bool := decide (1 ≤ b.length ∧ b.length ≤ 10) && b.all Fm.validI
set_option maxRecDepth 100000 in
set_option maxHeartbeats 4000000 in
theorem validRoot100 (w : World) (o : Option Addr) (cap : Nat) (b : Fm.BoxD) (h : Sl w o 2 (ivs b)) (hn : b.length ≤ 1000000000) : Calls Tryz.prog 100 #[.slice o b.length cap] w (BoolP (rootB b) w) := by
 have H0 := Lib.hid h
 clear h
 by_cases h1 : b.length < 1
 ·have e1 : rootB b = false := by unfold rootB; rw [decide_eq_false (by omega)]; rfl
  go_enter Tryz.func100, Tryz.ntmps100
  go_wp2
  go_ret
  first | exact boolP_mk e1 (Below.refl _ _) | exact boolP_mk rfl (Below.refl _ _)
 ·by_cases h2 : 10 < b.length
  ·have e1 : rootB b = false := by unfold rootB; rw [decide_eq_false (by omega)]; rfl
   go_enter Tryz.func100, Tryz.ntmps100
   go_wp2
   go_ret
   first | exact boolP_mk e1 (Below.refl _ _) | exact boolP_mk rfl (Below.refl _ _)
  ·have E1 : Hid (rootB b = b.all Fm.validI) := Lib.hid (by unfold rootB; rw [decide_eq_true (by omega)]; simp)
   go_enter Tryz.func100, Tryz.ntmps100
   go_wp2_with fail
   go_loopw [15] (fun i W => ∃ k : Nat, k ≤ b.length ∧ i = .int .i64 (k : Nat) ∧ (∀ j v, j < k → b[j]? = some v → Fm.validI v = true) ∧ Below w.heap.size w W) (fun i _ => b.length - (intOf i).toNat)
   case atStart => exact ⟨0, Nat.zero_le _, rfl, fun j v hj => by omega, Below.refl _ _⟩
   case round =>
    obtain ⟨k, hk, rfl, hA, hB⟩ := hrel
    by_cases hlt : k < b.length
    ·obtain ⟨v, hv⟩ : ∃ v, b[k]? = some v := ⟨_, List.getElem?_eq_getElem hlt⟩
     obtain ⟨g, off, ho, glt, x0, x1⟩ := iv_get (H0.out.keep hB) hv
     subst ho
     have HV := Lib.hid hv
     have HA := Lib.hid hA
     clear hv hA
     go_wp2_with fail
     refine (valid116 v.1 v.2 _).mono ?_
     rintro e W1 ⟨rfl, hw⟩
     have hB1 : Below w.heap.size w W1 := (hB.alloc hB.size _).trans (hw.mono (by simp; have := hB.size; omega))
     clear hw
     cases hq : Fm.validI (v.1, v.2) with
     | true =>
      go_wp2_with fail
      go_roundw
      case rel =>
       refine ⟨k + 1, by omega, by simp, fun j x hj hx => ?_, hB1⟩
       rcases Nat.lt_or_ge j k with h | h
       ·exact HA.out j x h hx
       ·have : j = k := by omega
        subst this
        rw [HV.out] at hx
        injection hx with hx
        rw [← hx]; exact hq
      case measure => simp [intOf]; omega
     | false =>
      go_wp2
      go_ret
      exact boolP_mk (E1.out.trans (all_no HV.out hq)) hB1
    ·have hke : k = b.length := by omega
     subst hke
     have e1 := all_yes hA
     go_wp2
     go_ret
     exact boolP_mk (E1.out.trans e1) hB
end Go.Proofs.Ng
end

