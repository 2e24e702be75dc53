/-
  Walks: sums and products of ranges.
-/
import Derived.Test.YthbfmjlcnfgnbaaGreatEb
import Derived.Laws.Externs
import Derived.KernelRfl
namespace Go.Proofs.En
open Go.RowKit

theorem bcell {W w1 : World} (hb : Below W.heap.size W w1) : (∀ b o, b < W.heap.size → w1.cell? ⟨b, o, none⟩ = W.cell? ⟨b, o, none⟩) ∧ (∀ b o, b < W.heap.size → w1.frozen? ⟨b, o, none⟩ = W.frozen? ⟨b, o, none⟩) :=
  ⟨fun b o h => hb.cell (p := ⟨b, o, none⟩) h, fun b o h => hb.frozen (p := ⟨b, o, none⟩) h⟩

theorem below_call {w W w1 : World} (h : Below w.heap.size w W) (hb : Below W.heap.size W w1) : Below w.heap.size w w1 := h.trans (hb.mono h.size)
theorem below3 (w : World) (a b c : Obj) : Below w.heap.size w (((w.alloc a).alloc b).alloc c) := (((Below.refl _ _).alloc (Nat.le_refl _) _).alloc (by simp) _).alloc (by simp; omega) _

theorem add64_run (x y : Int) (hx : 0 ≤ x) (hy : 0 ≤ y) (w : World) : (callFunc 60 #[.int .u64 x, .int .u64 y, .int .u64 0]).run Tryz.prog w =
    .ok (.value (.tuple #[.int .u64 ((x + y) % 18446744073709551616), .int .u64 ((x + y) / 18446744073709551616)])) w := by
  rw [run_callFunc_extern Tryz.func60 (by kernel_rfl) (by kernel_rfl) (by kernel_rfl) (e := add64Entry) (by kernel_rfl), run_add64 x y 0 hx hy (by omega) (by omega)]
  rw [Int.add_zero]
  rfl

set_option maxHeartbeats 1000000 in
theorem up_any (p : Int) (w : World) (h1 : -85070591730234615865843651857942052864 ≤ p) (h2 : p ≤ 85070591730234615865843651857942052864) :
    Calls Tryz.prog 34 #[.agg #[.int .i64 (p / 18446744073709551616), .int .u64 (p % 18446744073709551616)]] w (DownP (downV (p + 65535)) (okB ((p + 65535) / 65536)) w) := by
  generalize hA : p / 18446744073709551616 = A
  generalize hB : p % 18446744073709551616 = B
  have hd := fun w => add64_run B 65535 (by omega) (by omega) w
  generalize hX : (B + 65535) % 18446744073709551616 = X at hd
  generalize hC : (B + 65535) / 18446744073709551616 = C at hd
  have a1 : -4611686018427387904 ≤ A := by omega
  have a2 : A ≤ 4611686018427387904 := by omega
  have c1 : 0 ≤ C := by omega
  have c2 : C ≤ 1 := by omega
  have e1 : (p + 65535) / 18446744073709551616 = A + C := by omega
  have e2 : (p + 65535) % 18446744073709551616 = X := by omega
  have hq := fun w => down_any (p + 65535) w
  rw [e1, e2] at hq
  have HQ := Lib.hid hq
  generalize downV (p + 65535) = D at HQ ⊢
  generalize okB ((p + 65535) / 65536) = O at HQ ⊢
  clear hA hB h1 h2 hX hC e1 e2 hq
  go_enter Tryz.func34, Tryz.ntmps34
  go_wp2_with fail
  refine (HQ.out _).mono ?_
  rintro e w1 ⟨rfl, hb⟩
  go_wp2
  go_ret2
  exact downP_mk rfl rfl (below_call ((Below.refl _ _).alloc (Nat.le_refl _) _) hb)

def AddP (lo hi : Int) (ok : Bool) (w : World) (e : Ending) (w' : World) : Prop := e = .returned (.tuple #[.agg #[.int .i64 lo, .int .i64 hi], .bool ok]) ∧ Below w.heap.size w w'
theorem addP_mk {a b c d : Int} {x y : Bool} {w w' : World} (h1 : a = c) (h2 : b = d) (h3 : x = y) (hb : Below w.heap.size w w') : AddP a b x w (.returned (.tuple #[.agg #[.int .i64 c, .int .i64 d], .bool y])) w' := by
  subst h1 h2 h3; exact ⟨rfl, hb⟩

set_option maxHeartbeats 1000000 in
theorem add_no1 (a b c d : Int) (w : World) (h : smallB a b = false) : 
    Calls Tryz.prog 13 #[.agg #[.int .i64 a, .int .i64 b], .agg #[.int .i64 c, .int .i64 d]] w (AddP 0 0 false w) := by
  go_enter Tryz.func13, Tryz.ntmps13
  go_wp2_with fail
  refine (small_any _ _ _).mono ?_
  rintro e w1 ⟨rfl, hb⟩
  obtain ⟨hc, hf⟩ := bcell hb
  go_wp2
  refine bodyPost_ret (v := .tuple #[.agg #[.int .i64 0, .int .i64 0], .bool false]) (by simp [results, Tryz.results13, go_sem, hc]) rfl (addP_mk rfl rfl rfl ?_)
  exact ((below_call (below3 _ _ _ _) hb).setCell (by simp; omega) _).setCell (by simp; omega) _

set_option maxHeartbeats 1000000 in
theorem add_no2 (a b c d : Int) (w : World) (h : smallB a b = true) (h' : smallB c d = false) : 
    Calls Tryz.prog 13 #[.agg #[.int .i64 a, .int .i64 b], .agg #[.int .i64 c, .int .i64 d]] w (AddP 0 0 false w) := by
  go_enter Tryz.func13, Tryz.ntmps13
  go_wp2_with fail
  refine (small_any _ _ _).mono ?_
  rintro e w1 ⟨rfl, hb⟩
  obtain ⟨hc, hf⟩ := bcell hb
  have z0 : w.heap.size < w1.heap.size := by have := hb.size; simp at this; omega
  have z1 : w.heap.size + 1 < w1.heap.size := by have := hb.size; simp at this; omega
  have z2 : w.heap.size + 1 + 1 < w1.heap.size := by have := hb.size; simp at this; omega
  go_wp2_with fail
  refine (small_any _ _ _).mono ?_
  rintro e w2 ⟨rfl, hb2⟩
  obtain ⟨hc2, hf2⟩ := bcell hb2
  go_wp2
  refine bodyPost_ret (v := .tuple #[.agg #[.int .i64 0, .int .i64 0], .bool false]) (by simp [results, Tryz.results13, go_sem, hc, hc2, z2]) rfl (addP_mk rfl rfl rfl ?_)
  exact ((below_call (below_call (below3 _ _ _ _) hb) hb2).setCell (by simp; omega) _).setCell (by simp; omega) _

set_option maxHeartbeats 1000000 in
theorem add_yes (a b c d : Int) (w : World) (h : smallB a b = true) (h' : smallB c d = true) : 
    Calls Tryz.prog 13 #[.agg #[.int .i64 a, .int .i64 b], .agg #[.int .i64 c, .int .i64 d]] w (if smallB (a + c) (b + d) then AddP (a + c) (b + d) true w else AddP 0 0 false w) := by
  have hs : -1152921504606846976 ≤ a ∧ a ≤ b ∧ b ≤ 1152921504606846976 := by simpa [smallB] using h
  have hs' : -1152921504606846976 ≤ c ∧ c ≤ d ∧ d ≤ 1152921504606846976 := by simpa [smallB] using h'
  obtain ⟨g1, g2, g3⟩ := hs
  obtain ⟨g4, g5, g6⟩ := hs'
  have j1 : b ≤ 1152921504606846976 := g3
  have j2 : -1152921504606846976 ≤ b := by omega
  have j3 : a ≤ 1152921504606846976 := by omega
  have j4 : -1152921504606846976 ≤ d := by omega
  have j5 : c ≤ 1152921504606846976 := by omega
  cases hh : smallB (a + c) (b + d) with
  | true =>
    simp only [if_true]
    go_enter Tryz.func13, Tryz.ntmps13
    go_wp2_with fail
    refine (small_any _ _ _).mono ?_
    rintro e w1 ⟨rfl, hb⟩
    obtain ⟨hc, hf⟩ := bcell hb
    have z0 : w.heap.size < w1.heap.size := by have := hb.size; simp at this; omega
    have z1 : w.heap.size + 1 < w1.heap.size := by have := hb.size; simp at this; omega
    have z2 : w.heap.size + 1 + 1 < w1.heap.size := by have := hb.size; simp at this; omega
    go_wp2_with fail
    refine (small_any _ _ _).mono ?_
    rintro e w2 ⟨rfl, hb2⟩
    obtain ⟨hc2, hf2⟩ := bcell hb2
    have y0 : w.heap.size < w2.heap.size := by have := hb2.size; omega
    have y1 : w.heap.size + 1 < w2.heap.size := by have := hb2.size; omega
    have y2 : w.heap.size + 1 + 1 < w2.heap.size := by have := hb2.size; omega
    have y3 : w.heap.size + 1 + 1 < w2.heap.size + 1 := by omega
    go_wp2_with fail
    refine (small_any _ _ _).mono ?_
    rintro e w3 ⟨rfl, hb3⟩
    obtain ⟨hc3, hf3⟩ := bcell hb3
    have x0 : w.heap.size < w3.heap.size := by have := hb3.size; simp at this; omega
    have x1 : w.heap.size + 1 < w3.heap.size := by have := hb3.size; simp at this; omega
    have x2 : w.heap.size + 1 + 1 < w3.heap.size := by have := hb3.size; simp at this; omega
    have x3 : w2.heap.size < w3.heap.size := by have := hb3.size; simp at this; omega
    go_wp2
    refine bodyPost_ret (v := .tuple #[.agg #[.int .i64 (a + c), .int .i64 (b + d)], .bool true]) (by simp [results, Tryz.results13, go_sem, hc, hc2, hc3, z2, y2, y3]) rfl (addP_mk rfl rfl rfl ?_)
    exact ((below_call ((below_call (below_call (below3 _ _ _ _) hb) hb2).alloc (by omega) _) hb3).setCell (by simp; omega) _).setCell (by simp; omega) _
  | false =>
    simp only [Bool.false_eq_true, if_false]
    go_enter Tryz.func13, Tryz.ntmps13
    go_wp2_with fail
    refine (small_any _ _ _).mono ?_
    rintro e w1 ⟨rfl, hb⟩
    obtain ⟨hc, hf⟩ := bcell hb
    have z0 : w.heap.size < w1.heap.size := by have := hb.size; simp at this; omega
    have z1 : w.heap.size + 1 < w1.heap.size := by have := hb.size; simp at this; omega
    have z2 : w.heap.size + 1 + 1 < w1.heap.size := by have := hb.size; simp at this; omega
    go_wp2_with fail
    refine (small_any _ _ _).mono ?_
    rintro e w2 ⟨rfl, hb2⟩
    obtain ⟨hc2, hf2⟩ := bcell hb2
    have y0 : w.heap.size < w2.heap.size := by have := hb2.size; omega
    have y1 : w.heap.size + 1 < w2.heap.size := by have := hb2.size; omega
    have y2 : w.heap.size + 1 + 1 < w2.heap.size := by have := hb2.size; omega
    have y3 : w.heap.size + 1 + 1 < w2.heap.size + 1 := by omega
    go_wp2_with fail
    refine (small_any _ _ _).mono ?_
    rintro e w3 ⟨rfl, hb3⟩
    obtain ⟨hc3, hf3⟩ := bcell hb3
    have x0 : w.heap.size < w3.heap.size := by have := hb3.size; simp at this; omega
    have x1 : w.heap.size + 1 < w3.heap.size := by have := hb3.size; simp at this; omega
    have x2 : w.heap.size + 1 + 1 < w3.heap.size := by have := hb3.size; simp at this; omega
    have x3 : w2.heap.size < w3.heap.size := by have := hb3.size; simp at this; omega
    go_wp2
    refine bodyPost_ret (v := .tuple #[.agg #[.int .i64 0, .int .i64 0], .bool false]) (by simp [results, Tryz.results13, go_sem, hc, hc2, hc3, z2, y2, y3]) rfl (addP_mk rfl rfl rfl ?_)
    exact ((below_call ((below_call (below_call (below3 _ _ _ _) hb) hb2).alloc (by omega) _) hb3).setCell (by simp; omega) _).setCell (by simp; omega) _

theorem add_all (a b c d : Int) (w : World) : ∃ lo hi ok, (ok = (smallB a b && smallB c d && smallB (a + c) (b + d))) ∧ lo = (if ok then a + c else 0) ∧ hi = (if ok then b + d else 0) ∧
    Calls Tryz.prog 13 #[.agg #[.int .i64 a, .int .i64 b], .agg #[.int .i64 c, .int .i64 d]] w (AddP lo hi ok w) := by
  cases h1 : smallB a b with
  | false => exact ⟨0, 0, false, by simp, by simp, by simp, add_no1 a b c d w h1⟩
  | true =>
    cases h2 : smallB c d with
    | false => exact ⟨0, 0, false, by simp, by simp, by simp, add_no2 a b c d w h1 h2⟩
    | true =>
      have := add_yes a b c d w h1 h2
      cases h3 : smallB (a + c) (b + d) with
      | true => rw [h3] at this; exact ⟨a + c, b + d, true, by simp, by simp, by simp, by simpa using this⟩
      | false => rw [h3] at this; exact ⟨0, 0, false, by simp, by simp, by simp, by simpa using this⟩
end Go.Proofs.En
