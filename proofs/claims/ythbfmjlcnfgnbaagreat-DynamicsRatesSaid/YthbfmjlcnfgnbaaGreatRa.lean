/-
  Walks: the reference's small ranges and sums.
-/
import Derived.Test.YthbfmjlcnfgnbaaGreatEc
namespace Go.Proofs.En
open Go.RowKit

set_option maxHeartbeats 400000 in
theorem smallr_any (lo hi : Int) (w : World) :
    Calls Tryz.prog 54 #[.agg #[.int .i64 lo, .int .i64 hi]] w fun e w' => e = .returned (.bool (smallB lo hi)) ∧ Below w.heap.size w w' := by
  by_cases h1 : -1152921504606846976 ≤ lo
  · by_cases h2 : lo ≤ hi
    · by_cases h3 : hi ≤ 1152921504606846976
      all_goals
        go_enter Tryz.func54, Tryz.ntmps54
        go_wp2
        go_ret
        exact ⟨ret_bool (by unfold smallB; symm; simp; omega), (Below.refl _ _).alloc (Nat.le_refl _) _⟩
    · go_enter Tryz.func54, Tryz.ntmps54
      go_wp2
      go_ret
      exact ⟨ret_bool (by unfold smallB; symm; simp; omega), (Below.refl _ _).alloc (Nat.le_refl _) _⟩
  · go_enter Tryz.func54, Tryz.ntmps54
    go_wp2
    go_ret
    exact ⟨ret_bool (by unfold smallB; symm; simp; omega), (Below.refl _ _).alloc (Nat.le_refl _) _⟩

set_option maxHeartbeats 1000000 in
theorem addr_no1 (a b c d : Int) (w : World) (h : smallB a b = false) : 
    Calls Tryz.prog 28 #[.agg #[.int .i64 a, .int .i64 b], .agg #[.int .i64 c, .int .i64 d]] w (AddP 0 0 false w) := by
  go_enter Tryz.func28, Tryz.ntmps28
  go_wp2_with fail
  refine (smallr_any _ _ _).mono ?_
  rintro e w1 ⟨rfl, hb⟩
  obtain ⟨hc, hf⟩ := bcell hb
  go_wp2
  refine bodyPost_ret (v := .tuple #[.agg #[.int .i64 0, .int .i64 0], .bool false]) (by simp [results, Tryz.results28, go_sem, hc]) rfl (addP_mk rfl rfl rfl ?_)
  exact ((below_call (below3 _ _ _ _) hb).setCell (by simp; omega) _).setCell (by simp; omega) _

set_option maxHeartbeats 1000000 in
theorem addr_no2 (a b c d : Int) (w : World) (h : smallB a b = true) (h' : smallB c d = false) : 
    Calls Tryz.prog 28 #[.agg #[.int .i64 a, .int .i64 b], .agg #[.int .i64 c, .int .i64 d]] w (AddP 0 0 false w) := by
  go_enter Tryz.func28, Tryz.ntmps28
  go_wp2_with fail
  refine (smallr_any _ _ _).mono ?_
  rintro e w1 ⟨rfl, hb⟩
  obtain ⟨hc, hf⟩ := bcell hb
  have z0 : w.heap.size < w1.heap.size := by have := hb.size; simp at this; omega
  have z1 : w.heap.size + 1 < w1.heap.size := by have := hb.size; simp at this; omega
  have z2 : w.heap.size + 1 + 1 < w1.heap.size := by have := hb.size; simp at this; omega
  go_wp2_with fail
  refine (smallr_any _ _ _).mono ?_
  rintro e w2 ⟨rfl, hb2⟩
  obtain ⟨hc2, hf2⟩ := bcell hb2
  go_wp2
  refine bodyPost_ret (v := .tuple #[.agg #[.int .i64 0, .int .i64 0], .bool false]) (by simp [results, Tryz.results28, go_sem, hc, hc2, z2]) rfl (addP_mk rfl rfl rfl ?_)
  exact ((below_call (below_call (below3 _ _ _ _) hb) hb2).setCell (by simp; omega) _).setCell (by simp; omega) _

set_option maxHeartbeats 1000000 in
theorem addr_yes (a b c d : Int) (w : World) (h : smallB a b = true) (h' : smallB c d = true) : 
    Calls Tryz.prog 28 #[.agg #[.int .i64 a, .int .i64 b], .agg #[.int .i64 c, .int .i64 d]] w (if smallB (a + c) (b + d) then AddP (a + c) (b + d) true w else AddP 0 0 false w) := by
  have hs : -1152921504606846976 ≤ a ∧ a ≤ b ∧ b ≤ 1152921504606846976 := by simpa [smallB] using h
  have hs' : -1152921504606846976 ≤ c ∧ c ≤ d ∧ d ≤ 1152921504606846976 := by simpa [smallB] using h'
  obtain ⟨g1, g2, g3⟩ := hs
  obtain ⟨g4, g5, g6⟩ := hs'
  have j1 : b ≤ 1152921504606846976 := g3
  have j2 : -1152921504606846976 ≤ b := by omega
  have j3 : a ≤ 1152921504606846976 := by omega
  have j4 : -1152921504606846976 ≤ d := by omega
  have j5 : c ≤ 1152921504606846976 := by omega
  cases hh : smallB (a + c) (b + d) with
  | true =>
    simp only [if_true]
    go_enter Tryz.func28, Tryz.ntmps28
    go_wp2_with fail
    refine (smallr_any _ _ _).mono ?_
    rintro e w1 ⟨rfl, hb⟩
    obtain ⟨hc, hf⟩ := bcell hb
    have z0 : w.heap.size < w1.heap.size := by have := hb.size; simp at this; omega
    have z1 : w.heap.size + 1 < w1.heap.size := by have := hb.size; simp at this; omega
    have z2 : w.heap.size + 1 + 1 < w1.heap.size := by have := hb.size; simp at this; omega
    go_wp2_with fail
    refine (smallr_any _ _ _).mono ?_
    rintro e w2 ⟨rfl, hb2⟩
    obtain ⟨hc2, hf2⟩ := bcell hb2
    have y0 : w.heap.size < w2.heap.size := by have := hb2.size; omega
    have y1 : w.heap.size + 1 < w2.heap.size := by have := hb2.size; omega
    have y2 : w.heap.size + 1 + 1 < w2.heap.size := by have := hb2.size; omega
    have y3 : w.heap.size + 1 + 1 < w2.heap.size + 1 := by omega
    go_wp2_with fail
    refine (smallr_any _ _ _).mono ?_
    rintro e w3 ⟨rfl, hb3⟩
    obtain ⟨hc3, hf3⟩ := bcell hb3
    have x0 : w.heap.size < w3.heap.size := by have := hb3.size; simp at this; omega
    have x1 : w.heap.size + 1 < w3.heap.size := by have := hb3.size; simp at this; omega
    have x2 : w.heap.size + 1 + 1 < w3.heap.size := by have := hb3.size; simp at this; omega
    have x3 : w2.heap.size < w3.heap.size := by have := hb3.size; simp at this; omega
    go_wp2
    refine bodyPost_ret (v := .tuple #[.agg #[.int .i64 (a + c), .int .i64 (b + d)], .bool true]) (by simp [results, Tryz.results28, go_sem, hc, hc2, hc3, z2, y2, y3]) rfl (addP_mk rfl rfl rfl ?_)
    exact ((below_call ((below_call (below_call (below3 _ _ _ _) hb) hb2).alloc (by omega) _) hb3).setCell (by simp; omega) _).setCell (by simp; omega) _
  | false =>
    simp only [Bool.false_eq_true, if_false]
    go_enter Tryz.func28, Tryz.ntmps28
    go_wp2_with fail
    refine (smallr_any _ _ _).mono ?_
    rintro e w1 ⟨rfl, hb⟩
    obtain ⟨hc, hf⟩ := bcell hb
    have z0 : w.heap.size < w1.heap.size := by have := hb.size; simp at this; omega
    have z1 : w.heap.size + 1 < w1.heap.size := by have := hb.size; simp at this; omega
    have z2 : w.heap.size + 1 + 1 < w1.heap.size := by have := hb.size; simp at this; omega
    go_wp2_with fail
    refine (smallr_any _ _ _).mono ?_
    rintro e w2 ⟨rfl, hb2⟩
    obtain ⟨hc2, hf2⟩ := bcell hb2
    have y0 : w.heap.size < w2.heap.size := by have := hb2.size; omega
    have y1 : w.heap.size + 1 < w2.heap.size := by have := hb2.size; omega
    have y2 : w.heap.size + 1 + 1 < w2.heap.size := by have := hb2.size; omega
    have y3 : w.heap.size + 1 + 1 < w2.heap.size + 1 := by omega
    go_wp2_with fail
    refine (smallr_any _ _ _).mono ?_
    rintro e w3 ⟨rfl, hb3⟩
    obtain ⟨hc3, hf3⟩ := bcell hb3
    have x0 : w.heap.size < w3.heap.size := by have := hb3.size; simp at this; omega
    have x1 : w.heap.size + 1 < w3.heap.size := by have := hb3.size; simp at this; omega
    have x2 : w.heap.size + 1 + 1 < w3.heap.size := by have := hb3.size; simp at this; omega
    have x3 : w2.heap.size < w3.heap.size := by have := hb3.size; simp at this; omega
    go_wp2
    refine bodyPost_ret (v := .tuple #[.agg #[.int .i64 0, .int .i64 0], .bool false]) (by simp [results, Tryz.results28, go_sem, hc, hc2, hc3, z2, y2, y3]) rfl (addP_mk rfl rfl rfl ?_)
    exact ((below_call ((below_call (below_call (below3 _ _ _ _) hb) hb2).alloc (by omega) _) hb3).setCell (by simp; omega) _).setCell (by simp; omega) _

theorem addr_fn (a b c d : Int) : ∃ lo hi ok, (ok = (smallB a b && smallB c d && smallB (a + c) (b + d))) ∧ (ok = true → lo = a + c ∧ hi = b + d) ∧ (ok = false → lo = 0 ∧ hi = 0) ∧
    ∀ w, Calls Tryz.prog 28 #[.agg #[.int .i64 a, .int .i64 b], .agg #[.int .i64 c, .int .i64 d]] w (AddP lo hi ok w) := by
  cases h1 : smallB a b with
  | false => exact ⟨0, 0, false, by simp, by simp, by simp, fun w => addr_no1 a b c d w h1⟩
  | true =>
    cases h2 : smallB c d with
    | false => exact ⟨0, 0, false, by simp, by simp, by simp, fun w => addr_no2 a b c d w h1 h2⟩
    | true =>
      have := fun w => addr_yes a b c d w h1 h2
      cases h3 : smallB (a + c) (b + d) with
      | true => rw [h3] at this; exact ⟨a + c, b + d, true, by simp, by simp, by simp, by simpa using this⟩
      | false => rw [h3] at this; exact ⟨0, 0, false, by simp, by simp, by simp, by simpa using this⟩
end Go.Proofs.En
