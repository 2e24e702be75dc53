/-
  Walks: the small functions on numbers.
-/
import Derived.WalkKit
import Derived.IntWalk
import Derived.Lib.Hide
import Derived.BigQuiet
import Derived.Outline
import Derived.Test.YthbfmjlcnfgnbaaGreatShelf
namespace Go.Proofs.En
open Go.RowKit

theorem ret_int {k : IntKind} {a b : Int} (h : a = b) : Ending.returned (.int k a) = .returned (.int k b) := by rw [h]
theorem ret_bool {a b : Bool} (h : a = b) : Ending.returned (.bool a) = .returned (.bool b) := by rw [h]

theorem tmod_neg (n k : Int) (h3 : 0 < k) (hn : n.tmod k < 0) : n.tmod k + k = n % k ∧ -k < n.tmod k := by
  have h1 : 0 ≤ n ∨ n < 0 := by omega
  rcases h1 with h1 | h1
  · rw [Int.tmod_eq_emod_of_nonneg h1] at hn
    have := Int.emod_nonneg n (show k ≠ 0 by omega)
    omega
  · have e : n.tmod k = -((-n) % k) := by
      have := Int.neg_tmod (-n) k
      rw [Int.neg_neg] at this
      rw [this, Int.tmod_eq_emod_of_nonneg (by omega)]
    have hlt := Int.emod_lt_of_pos (-n) h3
    have hge := Int.emod_nonneg (-n) (show k ≠ 0 by omega)
    rw [e]
    refine ⟨?_, by omega⟩
    have h5 := Int.mul_ediv_add_emod (-n) k
    have h6 : n = k * (-((-n) / k) - 1) + (k - (-n) % k) := by
      rw [Int.mul_sub, Int.mul_neg]; omega
    have h7 : n % k = (k - (-n) % k) % k := by
      rw [h6, Int.mul_add_emod_self_left]
      have : (k * (-((-n) / k) - 1) + (k - (-n) % k)) = n := h6.symm
      rw [this]
    have h8 := Int.emod_eq_of_lt (a := k - (-n) % k) (b := k) (by omega) (by omega)
    omega
theorem tmod_nn (n k : Int) (h3 : 0 < k) (hn : 0 ≤ n.tmod k) : n.tmod k = n % k := by
  have h1 : 0 ≤ n ∨ n < 0 := by omega
  rcases h1 with h1 | h1
  · exact Int.tmod_eq_emod_of_nonneg h1
  · have e : n.tmod k = -((-n) % k) := by
      have := Int.neg_tmod (-n) k
      rw [Int.neg_neg] at this
      rw [this, Int.tmod_eq_emod_of_nonneg (by omega)]
    have hge := Int.emod_nonneg (-n) (show k ≠ 0 by omega)
    have h0 : (-n) % k = 0 := by omega
    rw [e, h0]
    have : k ∣ n := (Int.dvd_neg).1 (Int.dvd_of_emod_eq_zero h0)
    rw [Int.emod_eq_zero_of_dvd this]; rfl

set_option maxHeartbeats 400000 in
theorem round_any (n k : Int) (w : World) (h3 : 0 < k) (h4 : k ≤ 9223372036854775807) :
    Calls Tryz.prog 14 #[.int .i64 n, .int .i64 k] w fun e w' => e = .returned (.int .i64 (n % k)) ∧ w = w' := by
  have hk : (k == 0) = false := by simp; omega
  by_cases hn : n.tmod k < 0
  · have h5 := tmod_neg n k h3 hn
    have H5 := Lib.hid h5
    clear h5
    go_enter Tryz.func14, Tryz.ntmps14
    go_wp2
    go_ret
    have h6 := H5.out
    exact ⟨ret_int (by rw [IntWalk.wrap64_in _ (by omega)]; exact h6.1), rfl⟩
  · have h5 := tmod_nn n k h3 (by omega)
    have H5 := Lib.hid h5
    clear h5
    go_enter Tryz.func14, Tryz.ntmps14
    go_wp2
    go_ret
    exact ⟨ret_int H5.out, rfl⟩

def clampI (x : Int) : Int := if x < -2147483648 then -2147483648 else if 2147483648 < x then 2147483648 else x
theorem clampI_bd (x : Int) : -2147483648 ≤ clampI x ∧ clampI x ≤ 2147483648 := by
  unfold clampI; split
  · omega
  · split <;> omega
set_option maxHeartbeats 400000 in
theorem clamp_any (x : Int) (w : World) :
    Calls Tryz.prog 58 #[.int .i64 x] w fun e w' => e = .returned (.int .i64 (clampI x)) ∧ w = w' := by
  go_enter Tryz.func58, Tryz.ntmps58
  go_wp2
  all_goals
    go_ret
    refine ⟨ret_int ?_, rfl⟩
    unfold clampI
    (repeat' split at *) <;> omega

def smallB (lo hi : Int) : Bool := decide (-1152921504606846976 ≤ lo ∧ lo ≤ hi ∧ hi ≤ 1152921504606846976)
set_option maxHeartbeats 400000 in
theorem small_any (lo hi : Int) (w : World) :
    Calls Tryz.prog 30 #[.agg #[.int .i64 lo, .int .i64 hi]] w fun e w' => e = .returned (.bool (smallB lo hi)) ∧ Below w.heap.size w w' := by
  by_cases h1 : -1152921504606846976 ≤ lo
  · by_cases h2 : lo ≤ hi
    · by_cases h3 : hi ≤ 1152921504606846976
      all_goals
        go_enter Tryz.func30, Tryz.ntmps30
        go_wp2
        go_ret
        exact ⟨ret_bool (by unfold smallB; symm; simp; omega), (Below.refl _ _).alloc (Nat.le_refl _) _⟩
    · go_enter Tryz.func30, Tryz.ntmps30
      go_wp2
      go_ret
      exact ⟨ret_bool (by unfold smallB; symm; simp; omega), (Below.refl _ _).alloc (Nat.le_refl _) _⟩
  · go_enter Tryz.func30, Tryz.ntmps30
    go_wp2
    go_ret
    exact ⟨ret_bool (by unfold smallB; symm; simp; omega), (Below.refl _ _).alloc (Nat.le_refl _) _⟩

def withinB (a b c d : Int) : Bool := decide (c ≤ a ∧ a ≤ b ∧ b ≤ d)
set_option maxHeartbeats 400000 in
theorem within_any (a b c d : Int) (w : World) :
    Calls Tryz.prog 15 #[.agg #[.int .i64 a, .int .i64 b], .agg #[.int .i64 c, .int .i64 d]] w fun e w' => e = .returned (.bool (withinB a b c d)) ∧ Below w.heap.size w w' := by
  by_cases h1 : c ≤ a
  · by_cases h2 : a ≤ b
    · by_cases h3 : b ≤ d
      all_goals
        go_enter Tryz.func15, Tryz.ntmps15
        go_wp2
        go_ret
        exact ⟨ret_bool (by unfold withinB; symm; simp; omega), ((Below.refl _ _).alloc (Nat.le_refl _) _).alloc (by simp) _⟩
    · go_enter Tryz.func15, Tryz.ntmps15
      go_wp2
      go_ret
      exact ⟨ret_bool (by unfold withinB; symm; simp; omega), ((Below.refl _ _).alloc (Nat.le_refl _) _).alloc (by simp) _⟩
  · go_enter Tryz.func15, Tryz.ntmps15
    go_wp2
    go_ret
    exact ⟨ret_bool (by unfold withinB; symm; simp; omega), ((Below.refl _ _).alloc (Nat.le_refl _) _).alloc (by simp) _⟩

set_option maxHeartbeats 400000 in
theorem less_any (ph pl qh ql : Int) (w : World) :
    Calls Tryz.prog 32 #[.agg #[.int .i64 ph, .int .u64 pl], .agg #[.int .i64 qh, .int .u64 ql]] w fun e w' => e = .returned (.bool (decide (ph < qh ∨ ph = qh ∧ pl < ql))) ∧ Below w.heap.size w w' := by
  by_cases h1 : ph < qh
  · go_enter Tryz.func32, Tryz.ntmps32
    go_wp2
    go_ret
    exact ⟨ret_bool (by symm; simp; omega), ((Below.refl _ _).alloc (Nat.le_refl _) _).alloc (by simp) _⟩
  · by_cases h2 : ph = qh
    · have h2' : (ph == qh) = true := by simpa using h2
      have H2 := Lib.hid h2
      clear h2
      by_cases h3 : pl < ql
      all_goals
        go_enter Tryz.func32, Tryz.ntmps32
        go_wp2
        go_ret
        have h2 := H2.out
        exact ⟨ret_bool (by symm; simp; omega), ((Below.refl _ _).alloc (Nat.le_refl _) _).alloc (by simp) _⟩
    · have h2' : (ph == qh) = false := by simpa using h2
      have H2 := Lib.hid h2
      clear h2
      go_enter Tryz.func32, Tryz.ntmps32
      go_wp2
      go_ret
      have h2 := H2.out
      exact ⟨ret_bool (by symm; simp; omega), ((Below.refl _ _).alloc (Nat.le_refl _) _).alloc (by simp) _⟩
end Go.Proofs.En
