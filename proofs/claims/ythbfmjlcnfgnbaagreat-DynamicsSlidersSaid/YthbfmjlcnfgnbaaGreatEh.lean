/-
  The plain law of sums and products of ranges.
-/
import Derived.Test.YthbfmjlcnfgnbaaGreatEg
import Derived.Test.YthbfmjlcnfgnbaaGreatEf
namespace Go.Proofs.En
open Go.RowKit

def mulOkAll (a b c d : Int) : Bool := smallB a b && smallB c d && mulOk a b c d

theorem downV_in (p : Int) (h : okB (p / 65536) = true) : downV p = p / 65536 := by
  simp only [okB, decide_eq_true_eq] at h
  unfold downV
  rw [if_pos (by omega)]

theorem mul_all (a b c d : Int) : ∃ lo hi ok, ok = mulOkAll a b c d ∧ (ok = true → lo = mulL a b c d / 65536 ∧ hi = (mulG a b c d + 65535) / 65536) ∧ (ok = false → lo = 0 ∧ hi = 0) ∧
    ∀ w, Calls Tryz.prog 12 #[.agg #[.int .i64 a, .int .i64 b], .agg #[.int .i64 c, .int .i64 d]] w (AddP lo hi ok w) := by
  unfold mulOkAll
  cases h1 : smallB a b with
  | false => exact ⟨0, 0, false, by simp, by simp, by simp, fun w => mul_no1 a b c d w h1⟩
  | true =>
    cases h2 : smallB c d with
    | false => exact ⟨0, 0, false, by simp, by simp, by simp, fun w => mul_no2 a b c d w h1 h2⟩
    | true =>
      refine ⟨_, _, mulOk a b c d, by simp, ?_, ?_, fun w => mul_yes a b c d w h1 h2⟩
      · intro h
        rw [if_pos h, if_pos h]
        simp only [mulOk, Bool.and_eq_true] at h
        exact ⟨downV_in _ h.1, downV_in _ h.2⟩
      · intro h
        rw [h]; exact ⟨rfl, rfl⟩
theorem add_fn (a b c d : Int) : ∃ lo hi ok, (ok = (smallB a b && smallB c d && smallB (a + c) (b + d))) ∧ (ok = true → lo = a + c ∧ hi = b + d) ∧ (ok = false → lo = 0 ∧ hi = 0) ∧
    ∀ w, Calls Tryz.prog 13 #[.agg #[.int .i64 a, .int .i64 b], .agg #[.int .i64 c, .int .i64 d]] w (AddP lo hi ok w) := by
  cases h1 : smallB a b with
  | false => exact ⟨0, 0, false, by simp, by simp, by simp, fun w => add_no1 a b c d w h1⟩
  | true =>
    cases h2 : smallB c d with
    | false => exact ⟨0, 0, false, by simp, by simp, by simp, fun w => add_no2 a b c d w h1 h2⟩
    | true =>
      have := fun w => add_yes a b c d w h1 h2
      cases h3 : smallB (a + c) (b + d) with
      | true => rw [h3] at this; exact ⟨a + c, b + d, true, by simp, by simp, by simp, by simpa using this⟩
      | false => rw [h3] at this; exact ⟨0, 0, false, by simp, by simp, by simp, by simpa using this⟩

theorem mnF_le : ∀ (l : List Int) (m : Int), mnF l m ≤ m ∧ ∀ p ∈ l, mnF l m ≤ p
  | [], m => ⟨Int.le_refl _, fun p hp => by cases hp⟩
  | p :: l, m => by
    have ih := mnF_le l (if p < m then p else m)
    have e : mnF (p :: l) m = mnF l (if p < m then p else m) := rfl
    rw [e]
    have h0 : (if p < m then p else m) ≤ m ∧ (if p < m then p else m) ≤ p := by split <;> omega
    refine ⟨Int.le_trans ih.1 h0.1, fun q hq => ?_⟩
    rcases List.mem_cons.1 hq with rfl | hq
    · exact Int.le_trans ih.1 h0.2
    · exact ih.2 q hq
theorem mxF_ge : ∀ (l : List Int) (m : Int), m ≤ mxF l m ∧ ∀ p ∈ l, p ≤ mxF l m
  | [], m => ⟨Int.le_refl _, fun p hp => by cases hp⟩
  | p :: l, m => by
    have ih := mxF_ge l (if m < p then p else m)
    have e : mxF (p :: l) m = mxF l (if m < p then p else m) := rfl
    rw [e]
    have h0 : m ≤ (if m < p then p else m) ∧ p ≤ (if m < p then p else m) := by split <;> omega
    refine ⟨Int.le_trans h0.1 ih.1, fun q hq => ?_⟩
    rcases List.mem_cons.1 hq with rfl | hq
    · exact Int.le_trans h0.2 ih.1
    · exact ih.2 q hq

/-- A product of two numbers lies between those of the ends. -/
theorem between (a b c d m n : Int) (h1 : a ≤ m) (h2 : m ≤ b) (h3 : c ≤ n) (h4 : n ≤ d) : mulL a b c d ≤ m * n ∧ m * n ≤ mulG a b c d := by
  have hL := mnF_le [a * d, b * c, b * d] (a * c)
  have hG := mxF_ge [a * d, b * c, b * d] (a * c)
  have l1 := hL.1; have l2 := hL.2 (a * d) (by simp); have l3 := hL.2 (b * c) (by simp); have l4 := hL.2 (b * d) (by simp)
  have g1 := hG.1; have g2 := hG.2 (a * d) (by simp); have g3 := hG.2 (b * c) (by simp); have g4 := hG.2 (b * d) (by simp)
  show mnF [a * d, b * c, b * d] (a * c) ≤ _ ∧ _ ≤ mxF [a * d, b * c, b * d] (a * c)
  generalize mnF [a * d, b * c, b * d] (a * c) = L at *
  generalize mxF [a * d, b * c, b * d] (a * c) = G at *
  clear hL hG
  -- first along n, at both a and b; then along m
  have line : ∀ (x y lo hi u : Int), lo ≤ u → u ≤ hi → x ≤ y → ∀ k, (k * lo ≤ y → k * hi ≤ y → k * u ≤ y) ∧ (x ≤ k * lo → x ≤ k * hi → x ≤ k * u) := by
    intro x y lo hi u hu1 hu2 _ k
    rcases Int.le_total 0 k with hk | hk
    · have e1 := Int.mul_le_mul_of_nonneg_left hu1 hk
      have e2 := Int.mul_le_mul_of_nonneg_left hu2 hk
      exact ⟨fun _ h => Int.le_trans e2 h, fun h _ => Int.le_trans h e1⟩
    · have e1 := Int.mul_le_mul_of_nonpos_left hk hu1
      have e2 := Int.mul_le_mul_of_nonpos_left hk hu2
      exact ⟨fun h _ => Int.le_trans e1 h, fun _ h => Int.le_trans h e2⟩
  have hLG : L ≤ G := Int.le_trans l1 g1
  have A := line L G c d n h3 h4 hLG a
  have B := line L G c d n h3 h4 hLG b
  have an1 := A.1 g1 g2; have an2 := A.2 l1 l2
  have bn1 := B.1 g3 g4; have bn2 := B.2 l3 l4
  have M := line L G a b m h1 h2 hLG n
  rw [Int.mul_comm a n] at an1 an2
  rw [Int.mul_comm b n] at bn1 bn2
  rw [Int.mul_comm m n]
  exact ⟨M.2 an2 bn2, M.1 an1 bn1⟩

theorem mulL_pt (m n : Int) : mulL m m n n = m * n := by simp [mulL, mnF]
theorem mulG_pt (m n : Int) : mulG m m n n = m * n := by simp [mulG, mxF]

/-- What the law asks of products: a product of two numbers of the ranges is returned, within the ranges' product, and no wider than 1. -/
theorem law_mul (a b c d m n zlo zhi xlo xhi : Int) (ok tt : Bool) (h1 : a ≤ m) (h2 : m ≤ b) (h3 : c ≤ n) (h4 : n ≤ d)
    (e1 : ok = mulOkAll a b c d) (e2 : ok = true → xlo = mulL a b c d / 65536 ∧ xhi = (mulG a b c d + 65535) / 65536)
    (e3 : tt = mulOkAll m m n n) (e4 : tt = true → zlo = mulL m m n n / 65536 ∧ zhi = (mulG m m n n + 65535) / 65536) (hok : ok = true) :
    tt = true ∧ withinB zlo zhi xlo xhi = true ∧ zhi - zlo ≤ 1 ∧ -1152921504606846976 ≤ zlo ∧ zhi ≤ 1152921504606846976 := by
  obtain ⟨x1, x2⟩ := e2 hok
  rw [hok] at e1
  have e1 := e1.symm
  simp only [mulOkAll, mulOk, smallB, okB, Bool.and_eq_true, decide_eq_true_eq] at e1
  obtain ⟨⟨s1, s2⟩, o1, o2⟩ := e1
  obtain ⟨b1, b2⟩ := between a b c d m n h1 h2 h3 h4
  have hto : mulOkAll m m n n = true := by
    simp only [mulOkAll, mulOk, smallB, okB, Bool.and_eq_true, decide_eq_true_eq, mulL_pt, mulG_pt]
    generalize m * n = P at *
    omega
  rw [hto] at e3
  obtain ⟨z1, z2⟩ := e4 e3
  rw [mulL_pt] at z1
  rw [mulG_pt] at z2
  refine ⟨e3, ?_, ?_, ?_, ?_⟩
  · simp only [withinB, decide_eq_true_eq]
    generalize m * n = P at *
    omega
  all_goals
    generalize m * n = P at *
    omega

/-- A number of a range, as the law picks it. -/
theorem pick_in (a b i : Int) (h : a ≤ b) (l1 : -2305843009213693952 ≤ a) (l2 : b ≤ 2305843009213693960) : ∃ m, a ≤ m ∧ m ≤ b ∧ wrap64 (a + i % 1073741824 % (b - a + 1)) = m := by
  have h3 := Int.emod_nonneg (i % 1073741824) (show b - a + 1 ≠ 0 by omega)
  have h4 := Int.emod_lt_of_pos (i % 1073741824) (show 0 < b - a + 1 by omega)
  exact ⟨a + (i % 1073741824) % (b - a + 1), by omega, by omega, IntWalk.wrap64_in _ (by omega)⟩
end Go.Proofs.En
