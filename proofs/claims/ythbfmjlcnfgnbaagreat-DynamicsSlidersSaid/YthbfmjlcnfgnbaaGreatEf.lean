/-
  Walks: the product of two ranges.
-/
import Derived.Test.YthbfmjlcnfgnbaaGreatCe
namespace Go.Proofs.En
open Go.RowKit

set_option maxHeartbeats 1000000 in
theorem mul_no1 (a b c d : Int) (w : World) (h : smallB a b = false) : 
    Calls Tryz.prog 12 #[.agg #[.int .i64 a, .int .i64 b], .agg #[.int .i64 c, .int .i64 d]] w (AddP 0 0 false w) := by
  go_enter Tryz.func12, Tryz.ntmps12
  go_wp2_with fail
  refine (small_any _ _ _).mono ?_
  rintro e w1 ⟨rfl, hb⟩
  obtain ⟨hc, hf⟩ := bcell hb
  go_wp2
  refine bodyPost_ret (v := .tuple #[.agg #[.int .i64 0, .int .i64 0], .bool false]) (by simp [results, Tryz.results12, go_sem, hc]) rfl (addP_mk rfl rfl rfl ?_)
  exact ((below_call (below3 _ _ _ _) hb).setCell (by simp; omega) _).setCell (by simp; omega) _

set_option maxHeartbeats 1000000 in
theorem mul_no2 (a b c d : Int) (w : World) (h : smallB a b = true) (h' : smallB c d = false) : 
    Calls Tryz.prog 12 #[.agg #[.int .i64 a, .int .i64 b], .agg #[.int .i64 c, .int .i64 d]] w (AddP 0 0 false w) := by
  go_enter Tryz.func12, Tryz.ntmps12
  go_wp2_with fail
  refine (small_any _ _ _).mono ?_
  rintro e w1 ⟨rfl, hb⟩
  obtain ⟨hc, hf⟩ := bcell hb
  have z0 : w.heap.size < w1.heap.size := by have := hb.size; simp at this; omega
  have z1 : w.heap.size + 1 < w1.heap.size := by have := hb.size; simp at this; omega
  have z2 : w.heap.size + 1 + 1 < w1.heap.size := by have := hb.size; simp at this; omega
  go_wp2_with fail
  refine (small_any _ _ _).mono ?_
  rintro e w2 ⟨rfl, hb2⟩
  obtain ⟨hc2, hf2⟩ := bcell hb2
  go_wp2
  refine bodyPost_ret (v := .tuple #[.agg #[.int .i64 0, .int .i64 0], .bool false]) (by simp [results, Tryz.results12, go_sem, hc, hc2, z2]) rfl (addP_mk rfl rfl rfl ?_)
  exact ((below_call (below_call (below3 _ _ _ _) hb) hb2).setCell (by simp; omega) _).setCell (by simp; omega) _

end Go.Proofs.En
