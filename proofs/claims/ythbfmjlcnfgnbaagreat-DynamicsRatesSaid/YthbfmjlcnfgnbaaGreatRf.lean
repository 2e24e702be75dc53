/-
  The plain law of Ranges: the program's and the reference's products agree; the walk of ranges.
-/
import Derived.Test.YthbfmjlcnfgnbaaGreatRe
import Derived.Test.YthbfmjlcnfgnbaaGreatEh
namespace Go.Proofs.En
open Go.RowKit

theorem rlo_fold : ∀ (l : List Int) (m : Int), l.foldl (fun m p => if p / 65536 < m then p / 65536 else m) (m / 65536) = mnF l m / 65536
  | [], _ => rfl
  | p :: l, m => by
    have e : (if p / 65536 < m / 65536 then p / 65536 else m / 65536) = (if p < m then p else m) / 65536 := by split <;> split <;> omega
    show l.foldl _ (if p / 65536 < m / 65536 then p / 65536 else m / 65536) = mnF l (if p < m then p else m) / 65536
    rw [e]; exact rlo_fold l _
theorem rhi_fold : ∀ (l : List Int) (m : Int), l.foldl (fun m p => if m < (p + 65535) / 65536 then (p + 65535) / 65536 else m) ((m + 65535) / 65536) = (mxF l m + 65535) / 65536
  | [], _ => rfl
  | p :: l, m => by
    have e : (if (m + 65535) / 65536 < (p + 65535) / 65536 then (p + 65535) / 65536 else (m + 65535) / 65536) = ((if m < p then p else m) + 65535) / 65536 := by split <;> split <;> omega
    show l.foldl _ (if (m + 65535) / 65536 < (p + 65535) / 65536 then (p + 65535) / 65536 else (m + 65535) / 65536) = (mxF l (if m < p then p else m) + 65535) / 65536
    rw [e]; exact rhi_fold l _
theorem rlo_eq (a b c d : Int) : rlo (prods a b c d) = mulL a b c d / 65536 := rlo_fold [a * d, b * c, b * d] (a * c)
theorem rhi_eq (a b c d : Int) : rhi (prods a b c d) = (mulG a b c d + 65535) / 65536 := rhi_fold [a * d, b * c, b * d] (a * c)

theorem rOk_eq (a b c d : Int) : rOk a b c d = mulOk a b c d := by
  have hL := mnF_le [a * d, b * c, b * d] (a * c)
  have hG := mxF_ge [a * d, b * c, b * d] (a * c)
  have key : ∀ p ∈ prods a b c d, mulL a b c d ≤ p ∧ p ≤ mulG a b c d := by
    intro p hp
    simp only [prods, List.mem_cons, List.not_mem_nil, or_false] at hp
    rcases hp with rfl | hp
    · exact ⟨hL.1, hG.1⟩
    · exact ⟨hL.2 p (by simpa using hp), hG.2 p (by simpa using hp)⟩
  have h0 := key (a * c) (by simp [prods])
  rw [Bool.eq_iff_iff]
  unfold rOk mulOk
  rw [rlo_eq, rhi_eq]
  simp only [Bool.and_eq_true, smallB, okB, decide_eq_true_eq, List.all_eq_true]
  constructor
  · rintro ⟨_, h⟩; omega
  · rintro ⟨h1, h2⟩
    refine ⟨fun p hp => ?_, by omega⟩
    have := key p hp
    simp only [okP, Bool.and_eq_true, decide_eq_true_eq]
    unfold absI
    constructor <;> split <;> omega

theorem mulr_all (a b c d : Int) : ∃ lo hi ok, ok = mulOkAll a b c d ∧ (ok = true → lo = mulL a b c d / 65536 ∧ hi = (mulG a b c d + 65535) / 65536) ∧ (ok = false → lo = 0 ∧ hi = 0) ∧
    ∀ w, Calls Tryz.prog 27 #[.agg #[.int .i64 a, .int .i64 b], .agg #[.int .i64 c, .int .i64 d]] w (AddP lo hi ok w) := by
  unfold mulOkAll
  cases h1 : smallB a b with
  | false => exact ⟨0, 0, false, by simp, by simp, by simp, fun w => mulr_no1 a b c d w h1⟩
  | true =>
    cases h2 : smallB c d with
    | false => exact ⟨0, 0, false, by simp, by simp, by simp, fun w => mulr_no2 a b c d w h1 h2⟩
    | true =>
      refine ⟨_, _, rOk a b c d, by rw [rOk_eq]; simp, ?_, ?_, fun w => mulr_yes a b c d w h1 h2⟩
      · intro h
        rw [if_pos h, if_pos h]
        exact ⟨rlo_eq a b c d, rhi_eq a b c d⟩
      · intro h
        rw [h]; exact ⟨rfl, rfl⟩

/-- The program's and the reference's answers are one. -/
theorem both_add (a b c d : Int) : ∃ lo hi ok, (∀ w, Calls Tryz.prog 13 #[.agg #[.int .i64 a, .int .i64 b], .agg #[.int .i64 c, .int .i64 d]] w (AddP lo hi ok w)) ∧ (∀ w, Calls Tryz.prog 28 #[.agg #[.int .i64 a, .int .i64 b], .agg #[.int .i64 c, .int .i64 d]] w (AddP lo hi ok w)) := by
  obtain ⟨lo, hi, ok, e1, e2, e3, h⟩ := add_fn a b c d
  obtain ⟨lo', hi', ok', f1, f2, f3, h'⟩ := addr_fn a b c d
  have ho : ok' = ok := by rw [e1, f1]
  subst ho
  cases ok' with
  | true =>
    obtain ⟨rfl, rfl⟩ := e2 rfl
    obtain ⟨rfl, rfl⟩ := f2 rfl
    exact ⟨_, _, _, h, h'⟩
  | false =>
    obtain ⟨rfl, rfl⟩ := e3 rfl
    obtain ⟨rfl, rfl⟩ := f3 rfl
    exact ⟨_, _, _, h, h'⟩
theorem both_mul (a b c d : Int) : ∃ lo hi ok, (∀ w, Calls Tryz.prog 12 #[.agg #[.int .i64 a, .int .i64 b], .agg #[.int .i64 c, .int .i64 d]] w (AddP lo hi ok w)) ∧ (∀ w, Calls Tryz.prog 27 #[.agg #[.int .i64 a, .int .i64 b], .agg #[.int .i64 c, .int .i64 d]] w (AddP lo hi ok w)) := by
  obtain ⟨lo, hi, ok, e1, e2, e3, h⟩ := mul_all a b c d
  obtain ⟨lo', hi', ok', f1, f2, f3, h'⟩ := mulr_all a b c d
  have ho : ok' = ok := by rw [e1, f1]
  subst ho
  cases ok' with
  | true =>
    obtain ⟨rfl, rfl⟩ := e2 rfl
    obtain ⟨rfl, rfl⟩ := f2 rfl
    exact ⟨_, _, _, h, h'⟩
  | false =>
    obtain ⟨rfl, rfl⟩ := e3 rfl
    obtain ⟨rfl, rfl⟩ := f3 rfl
    exact ⟨_, _, _, h, h'⟩

def TrueP (w : World) (e : Ending) (w' : World) : Prop := e = .returned (.bool true) ∧ Below w.heap.size w w'

set_option maxHeartbeats 2000000 in
theorem ranges_any (a b c d : Int) (w : World) : Calls Tryz.prog 24 #[.agg #[.int .i64 a, .int .i64 b], .agg #[.int .i64 c, .int .i64 d]] w (TrueP w) := by
  obtain ⟨xl, xh, xo, h1, h2⟩ := both_add a b c d
  obtain ⟨yl, yh, yo, h3, h4⟩ := both_mul a b c d
  have H1 := Lib.hid h1
  have H2 := Lib.hid h2
  have H3 := Lib.hid h3
  have H4 := Lib.hid h4
  clear h1 h2 h3 h4
  go_enter Tryz.func24, Tryz.ntmps24
  go_wp2_with fail
  refine (H1.out _).mono ?_
  rintro e w1 ⟨rfl, hb1⟩
  have c1 := ((Cells2.new w (.int .i64 a) (.int .i64 b) 23).al (.cells #[.int .i64 c, .int .i64 d] 23)).keep hb1
  have c2 := (Cells2.new' (w.alloc (.cells #[.int .i64 a, .int .i64 b] 23)) (w.heap.size + 1) (.int .i64 c) (.int .i64 d) 23 (by simp)).keep hb1
  have hB := below_call (((Below.refl w.heap.size w).alloc (Nat.le_refl _) (.cells #[.int .i64 a, .int .i64 b] 23)).alloc (by simp) (.cells #[.int .i64 c, .int .i64 d] 23)) hb1
  clear hb1
  generalize w.heap.size + 1 = n1 at c2 ⊢
  have s0 := c1.c0; have s1 := c1.c1; have s2 := c2.c0; have s3 := c2.c1; have l0 := c1.lt; have l1 := c2.lt
  go_wp2_with fail
  refine (H2.out _).mono ?_
  rintro e w2 ⟨rfl, hb2⟩
  have d1 := (Cells2.new w1 (.int .i64 xl) (.int .i64 xh) 23).keep hb2
  replace c1 := (c1.al (.cells #[.int .i64 xl, .int .i64 xh] 23)).keep hb2
  replace c2 := (c2.al (.cells #[.int .i64 xl, .int .i64 xh] 23)).keep hb2
  replace hB := below_call (hB.alloc hB.size _) hb2
  clear hb2 s0 s1 s2 s3 l0 l1
  generalize w1.heap.size = n5 at d1 ⊢
  have s0 := c1.c0; have s1 := c1.c1; have s2 := c2.c0; have s3 := c2.c1; have l0 := c1.lt; have l1 := c2.lt
  go_wp2_with fail
  refine (H3.out _).mono ?_
  rintro e w3 ⟨rfl, hb3⟩
  have d2 := (Cells2.new w2 (.int .i64 xl) (.int .i64 xh) 23).keep hb3
  replace c1 := (c1.al (.cells #[.int .i64 xl, .int .i64 xh] 23)).keep hb3
  replace c2 := (c2.al (.cells #[.int .i64 xl, .int .i64 xh] 23)).keep hb3
  replace d1 := (d1.al (.cells #[.int .i64 xl, .int .i64 xh] 23)).keep hb3
  replace hB := below_call (hB.alloc hB.size _) hb3
  clear hb3 s0 s1 s2 s3 l0 l1
  generalize w2.heap.size = n7 at d2 ⊢
  have s0 := c1.c0; have s1 := c1.c1; have s2 := c2.c0; have s3 := c2.c1; have l0 := c1.lt; have l1 := c2.lt
  go_wp2_with fail
  refine (H4.out _).mono ?_
  rintro e w4 ⟨rfl, hb4⟩
  have d3 := (Cells2.new w3 (.int .i64 yl) (.int .i64 yh) 23).keep hb4
  replace d1 := (d1.al (.cells #[.int .i64 yl, .int .i64 yh] 23)).keep hb4
  replace d2 := (d2.al (.cells #[.int .i64 yl, .int .i64 yh] 23)).keep hb4
  replace hB := below_call (hB.alloc hB.size _) hb4
  clear hb4 s0 s1 s2 s3 l0 l1 c1 c2
  generalize w3.heap.size = n9 at d3 ⊢
  have s0 := d1.c0; have s1 := d1.c1; have s2 := d2.c0; have s3 := d2.c1; have s4 := d3.c0; have s5 := d3.c1
  have l0 := d1.lt; have l1 := d2.lt; have l2 := d3.lt
  go_wp2
  go_ret
  exact ⟨rfl, hB.alloc hB.size _⟩
end Go.Proofs.En
