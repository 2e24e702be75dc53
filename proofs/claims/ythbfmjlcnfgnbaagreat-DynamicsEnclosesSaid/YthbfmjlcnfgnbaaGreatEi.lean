/-
  DynamicsEncloses: the walk.
-/
import Derived.Test.YthbfmjlcnfgnbaaGreatEh
import Derived.Test.YthbfmjlcnfgnbaaGreatEe
import Derived.Test.YthbfmjlcnfgnbaaGreatAwB
import Derived.Deep.QuietTactic
import Derived.BigQuiet
namespace Go.Proofs.En
open Go.RowKit

theorem round_same (n k : Int) (w : World) (h3 : 0 < k) (h4 : k ≤ 9223372036854775807) :
    Calls Tryz.prog 14 #[.int .i64 n, .int .i64 k] w fun e w' => e = .returned (.int .i64 (n % k)) ∧ w' = w :=
  (round_any n k w h3 h4).mono fun _ _ ⟨h, h'⟩ => ⟨h, h'.symm⟩

def EndP (w : World) (e : Ending) (w' : World) : Prop := e = .returned (.bool true) ∧ Below w.heap.size w w'

set_option maxHeartbeats 4000000 in
theorem encloses_any (a0 a1 a2 a3 a4 a5 a6 a7 : Int) (w : World) :
    Calls Tryz.prog 3 #[.int .i64 a0, .int .i64 a1, .int .i64 a2, .int .i64 a3, .int .i64 a4, .int .i64 a5, .int .i64 a6, .int .i64 a7] w (EndP w) := by
  go_enter Tryz.func3, Tryz.ntmps3
  go_wp2_with fail
  refine (some_any _ _ _ _).mono ?_
  rintro e w1 ⟨a, b, u1, u2, u3, rfl, hb1⟩
  go_wp2_with fail
  refine (some_any _ _ _ _).mono ?_
  rintro e w2 ⟨c, d, v1, v2, v3, rfl, hb2⟩
  obtain ⟨xlo, xhi, ok, e1, e2, _, hmul⟩ := mul_all a b c d
  obtain ⟨ylo, yhi, is, e3, e4, _, hadd⟩ := add_fn a b c d
  obtain ⟨m, m1, m2, em⟩ := pick_in a b a4 u2 u1 u3
  obtain ⟨n, n1, n2, en⟩ := pick_in c d a5 v2 v1 v3
  obtain ⟨zlo, zhi, tt, e5, e6, _, hmul2⟩ := mul_all m m n n
  have HL := Lib.hid (fun hok => law_mul a b c d m n zlo zhi xlo xhi ok tt m1 m2 n1 n2 e1 e2 e5 e6 hok)
  have HA := Lib.hid (fun his : is = true => e4 his)
  have Hmul := Lib.hid hmul
  have Hadd := Lib.hid hadd
  have Hmul2 := Lib.hid hmul2
  have Em := Lib.hid em
  have En := Lib.hid en
  clear e1 e2 e3 e4 e5 e6 hmul hadd hmul2 em en
  go_wp2_with fail
  refine (Hmul.out _).mono ?_
  rintro e w3 ⟨rfl, hb3⟩
  have cu := (((Cells2.new w2 (.int .i64 a) (.int .i64 b) 23).al _).keep hb3)
  have cv := (Cells2.new' (w2.alloc _) (w2.heap.size + 1) (.int .i64 c) (.int .i64 d) 23 (by simp)).keep hb3
  have hB : Below w.heap.size w w3 := below_call (((below_call hb1 hb2).alloc (below_call hb1 hb2).size _).alloc (by have := (below_call hb1 hb2).size; simp; omega) _) hb3
  have k2 : w2.heap.size + 1 < w3.heap.size := cv.lt
  clear hb1 hb2 hb3
  generalize w2.heap.size + 1 = nv at cv k2 ⊢
  generalize w2.heap.size = nu at cu ⊢
  have c0 := cu.c0; have c1 := cu.c1; have c2 := cv.c0; have c3 := cv.c1
  have lu := cu.lt; have lv := cv.lt
  go_wp2_with fail
  refine (Hadd.out _).mono ?_
  rintro e w4 ⟨rfl, hb4⟩
  have cx := (Cells2.new w3 (.int .i64 xlo) (.int .i64 xhi) 23).keep hb4
  have lw := hB.size
  replace cu := (cu.al _).keep hb4
  replace cv := (cv.al _).keep hb4
  replace hB := below_call (hB.alloc hB.size _) hb4
  clear c0 c1 c2 c3 hb4 lu lv k2 lw
  generalize w3.heap.size = nx at cx ⊢
  have cy := Cells2.new w4 (.int .i64 ylo) (.int .i64 yhi) 23
  have HB : Hid (Below w.heap.size w (w4.alloc (.cells #[.int .i64 ylo, .int .i64 yhi] 23))) := Lib.hid (hB.alloc hB.size _)
  replace cu := cu.al (.cells #[.int .i64 ylo, .int .i64 yhi] 23)
  replace cv := cv.al (.cells #[.int .i64 ylo, .int .i64 yhi] 23)
  replace cx := cx.al (.cells #[.int .i64 ylo, .int .i64 yhi] 23)
  clear hB
  go_wp2_with fail
  generalize w4.alloc (.cells #[.int .i64 ylo, .int .i64 yhi] 23) = W at cu cv cx cy HB ⊢
  generalize w4.heap.size = ny at cy ⊢
  have c0 := cu.c0; have c1 := cu.c1; have c2 := cv.c0; have c3 := cv.c1
  have q1 : IntKind.i64.wrap (b - a) = b - a := IntWalk.i64_in _ (by omega)
  have q2 : IntKind.i64.wrap (b - a + 1) = b - a + 1 := IntWalk.i64_in _ (by omega)
  have q3 : ((b - a + 1) == 0) = false := by simp; omega
  have q4 : IntKind.i64.wrap (d - c) = d - c := IntWalk.i64_in _ (by omega)
  have q5 : IntKind.i64.wrap (d - c + 1) = d - c + 1 := IntWalk.i64_in _ (by omega)
  have q6 : ((d - c + 1) == 0) = false := by simp; omega
  have q9 : ¬ (b - a + 1 = 0) := by omega
  have q10 : ¬ (d - c + 1 = 0) := by omega
  go_quiet ((go_at_call 14; exact Calls.quiet_of_same (round_same _ _ _ (by omega) (by omega))))
  rw [Em.out, En.out]
  clear q1 q2 q3 q4 q5 q6 q9 q10 c0 c1 c2 c3 cu cv
  have hdr : Below W.heap.size W (W.drewN nq) := ⟨rfl, rfl, rfl, Nat.le_refl _, fun _ _ => rfl⟩
  replace cx := cx.keep hdr
  replace cy := cy.keep hdr
  have hB := below_call HB.out hdr
  clear HB hdr
  have HB := Lib.hid hB
  clear hB
  generalize W.drewN nq = V at cx cy HB ⊢
  go_wp2_with fail
  refine (Hmul2.out _).mono ?_
  rintro e w5 ⟨rfl, hb5⟩
  have hB := below_call (((HB.out).alloc (HB.out).size _).alloc (by have := (HB.out).size; simp; omega) _) hb5
  replace cx := ((cx.al _).al _).keep hb5
  replace cy := ((cy.al _).al _).keep hb5
  have cz := Cells2.new w5 (.int .i64 zlo) (.int .i64 zhi) 23
  replace cx := cx.al (.cells #[.int .i64 zlo, .int .i64 zhi] 23)
  replace cy := cy.al (.cells #[.int .i64 zlo, .int .i64 zhi] 23)
  clear hb5 HB
  have HB : Hid (Below w.heap.size w (w5.alloc (.cells #[.int .i64 zlo, .int .i64 zhi] 23))) := Lib.hid (hB.alloc hB.size _)
  clear hB
  cases ok with
  | true =>
    obtain ⟨rfl, lw, lz, lz1, lz2⟩ := HL.out rfl
    have lz0 : xlo ≤ zlo ∧ zlo ≤ zhi ∧ zhi ≤ xhi := by simpa [withinB] using lw
    have lz3 : zlo ≤ zhi := lz0.2.1
    have lz4 : -1152921504606846976 ≤ zhi := by omega
    have lz5 : zlo ≤ 1152921504606846976 := by omega
    clear lz0
    have x0 := cx.c0; have x1 := cx.c1
    have LW := Lib.hid lw
    clear lw
    go_wp2_with fail
    refine (within_any _ _ _ _ _).mono ?_
    rintro e w6 ⟨rfl, hb6⟩
    rw [LW.out]
    replace cz := cz.keep hb6
    replace cy := cy.keep hb6
    have hB6 := below_call HB.out hb6
    clear HB hb6
    have HB := Lib.hid hB6
    clear hB6 x0 x1
    have z0 := cz.c0; have z1 := cz.c1
    have lzt : ¬ (1 < zhi - zlo) := by omega
    go_wp2_with fail
    refine (Tryz.awake _).mono ?_
    rintro e w7 ⟨rfl, hb7⟩
    have cy7 := cy.keep hb7
    have y0 := cy7.c0; have y1 := cy7.c1
    have hB := below_call HB.out hb7
    cases is with
    | true =>
      obtain ⟨rfl, rfl⟩ := HA.out rfl
      have f1 : a + c ≤ m + n := by omega
      have f2 : m + n ≤ b + d := by omega
      go_wp2
      go_ret
      exact ⟨rfl, hB⟩
    | false =>
      go_wp2
      go_ret
      exact ⟨rfl, hB⟩
  | false =>
    go_wp2_with fail
    refine (Tryz.awake _).mono ?_
    rintro e w7 ⟨rfl, hb7⟩
    have cy7 := cy.keep hb7
    have y0 := cy7.c0; have y1 := cy7.c1
    have hB := below_call HB.out hb7
    cases is with
    | true =>
      obtain ⟨rfl, rfl⟩ := HA.out rfl
      have f1 : a + c ≤ m + n := by omega
      have f2 : m + n ≤ b + d := by omega
      go_wp2
      go_ret
      exact ⟨rfl, hB⟩
    | false =>
      go_wp2
      go_ret
      exact ⟨rfl, hB⟩
end Go.Proofs.En
