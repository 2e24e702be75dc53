/-
  DynamicsRanges: the walk.
-/
import Derived.Test.YthbfmjlcnfgnbaaGreatRf
import Derived.Test.YthbfmjlcnfgnbaaGreatEe
import Derived.Test.YthbfmjlcnfgnbaaGreatAwB
namespace Go.Proofs.En
open Go.RowKit

set_option maxHeartbeats 4000000 in
theorem rangesLaw_any (x0 x1 y0 y1 a2 a3 a4 a5 a6 a7 : Int) (w : World) :
    Calls Tryz.prog 8 #[.agg #[.int .i64 x0, .int .i64 x1], .agg #[.int .i64 y0, .int .i64 y1], .int .i64 a2, .int .i64 a3, .int .i64 a4, .int .i64 a5, .int .i64 a6, .int .i64 a7] w (TrueP w) := by
  go_enter Tryz.func8, Tryz.ntmps8
  go_wp2_with fail
  refine (some_any _ _ _ _).mono ?_
  rintro e w1 ⟨a, b, u1, u2, u3, rfl, hb1⟩
  clear u1 u2 u3
  have k1 := ((Cells2.new w (.int .i64 x0) (.int .i64 x1) 23).al (.cells #[.int .i64 y0, .int .i64 y1] 23)).keep hb1
  have k2 := (Cells2.new' (w.alloc (.cells #[.int .i64 x0, .int .i64 x1] 23)) (w.heap.size + 1) (.int .i64 y0) (.int .i64 y1) 23 (by simp)).keep hb1
  have hB := below_call (((Below.refl w.heap.size w).alloc (Nat.le_refl _) (.cells #[.int .i64 x0, .int .i64 x1] 23)).alloc (by simp) (.cells #[.int .i64 y0, .int .i64 y1] 23)) hb1
  clear hb1
  generalize w.heap.size + 1 = n1 at k2 ⊢
  go_wp2_with fail
  refine (some_any _ _ _ _).mono ?_
  rintro e w2 ⟨c, d, v1, v2, v3, rfl, hb2⟩
  clear v1 v2 v3
  replace hB := below_call hB hb2
  replace k1 := ((k1.keep hb2).al (.cells #[.int .i64 a, .int .i64 b] 23)).al (.cells #[.int .i64 c, .int .i64 d] 23)
  replace k2 := ((k2.keep hb2).al (.cells #[.int .i64 a, .int .i64 b] 23)).al (.cells #[.int .i64 c, .int .i64 d] 23)
  have k3 := (Cells2.new w2 (.int .i64 a) (.int .i64 b) 23).al (.cells #[.int .i64 c, .int .i64 d] 23)
  have k4 := Cells2.new' (w2.alloc (.cells #[.int .i64 a, .int .i64 b] 23)) (w2.heap.size + 1) (.int .i64 c) (.int .i64 d) 23 (by simp)
  replace hB := (hB.alloc hB.size (.cells #[.int .i64 a, .int .i64 b] 23)).alloc (by have := hB.size; simp; omega) (.cells #[.int .i64 c, .int .i64 d] 23)
  clear hb2
  have HB := Lib.hid hB
  clear hB
  go_wp2_with fail
  refine (Tryz.awake _).mono ?_
  rintro e w3 ⟨rfl, hb3⟩
  have hB := below_call HB.out hb3
  replace k1 := k1.keep hb3
  replace k2 := k2.keep hb3
  replace k3 := k3.keep hb3
  replace k4 := k4.keep hb3
  clear hb3 HB
  generalize w2.heap.size + 1 = n18 at k4 ⊢
  generalize w2.heap.size = n17 at k3 ⊢
  have s0 := k1.c0; have s1 := k1.c1; have s2 := k2.c0; have s3 := k2.c1; have s4 := k3.c0; have s5 := k3.c1; have s6 := k4.c0; have s7 := k4.c1
  go_wp2_with fail
  refine (ranges_any _ _ _ _ _).mono ?_
  rintro e w4 ⟨rfl, hb4⟩
  replace hB := below_call hB hb4
  replace k2 := k2.keep hb4
  replace k3 := k3.keep hb4
  replace k4 := k4.keep hb4
  clear hb4 s0 s1 s2 s3 s4 s5 s6 s7 k1
  have s2 := k2.c0; have s3 := k2.c1; have s4 := k3.c0; have s5 := k3.c1; have s6 := k4.c0; have s7 := k4.c1
  go_wp2_with fail
  refine (ranges_any _ _ _ _ _).mono ?_
  rintro e w5 ⟨rfl, hb5⟩
  replace hB := below_call hB hb5
  replace k2 := k2.keep hb5
  replace k3 := k3.keep hb5
  replace k4 := k4.keep hb5
  clear hb5 s2 s3 s4 s5 s6 s7
  have s2 := k2.c0; have s3 := k2.c1; have s4 := k3.c0; have s5 := k3.c1; have s6 := k4.c0; have s7 := k4.c1
  go_wp2_with fail
  refine (ranges_any _ _ _ _ _).mono ?_
  rintro e w6 ⟨rfl, hb6⟩
  replace hB := below_call hB hb6
  replace k4 := k4.keep hb6
  clear hb6 s2 s3 s4 s5 s6 s7 k2 k3
  have s6 := k4.c0; have s7 := k4.c1
  go_wp2_with fail
  refine (ranges_any _ _ _ _ _).mono ?_
  rintro e w7 ⟨rfl, hb7⟩
  replace hB := below_call hB hb7
  go_wp2
  go_ret
  exact ⟨rfl, hB⟩
end Go.Proofs.En
