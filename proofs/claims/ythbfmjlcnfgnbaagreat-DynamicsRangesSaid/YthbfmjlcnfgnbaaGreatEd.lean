/-
  Walks: the made ranges.
-/
import Derived.Test.YthbfmjlcnfgnbaaGreatEc
namespace Go.Proofs.En
open Go.RowKit

def IvP (w : World) (e : Ending) (w' : World) : Prop := ∃ lo hi : Int, -2147483648 ≤ lo ∧ lo ≤ hi ∧ hi ≤ 2147483648 ∧ e = .returned (.agg #[.int .i64 lo, .int .i64 hi]) ∧ Below w.heap.size w w'
theorem ivP_mk {w w' : World} (x y : Int) (h1 : -2147483648 ≤ x) (h2 : x ≤ 2147483648) (h3 : -2147483648 ≤ y) (h4 : y ≤ 2147483648) (hb : Below w.heap.size w w') :
    IvP w (.returned (.agg #[.int .i64 (if y < x then y else x), .int .i64 (if y > x then y else x)])) w' :=
  ⟨_, _, by split <;> omega, by split <;> split <;> omega, by split <;> omega, rfl, hb⟩

theorem pow_bd (r : Int) (r1 : 0 ≤ r) (r2 : r ≤ 26) : ∃ K : Int, (2 : Int) ^ (4 + r).toNat = K ∧ 16 ≤ K ∧ K ≤ 1073741824 := by
  obtain ⟨n, rfl⟩ := Int.eq_ofNat_of_zero_le r1
  have e : (4 + (n : Int)).toNat = 4 + n := by omega
  rw [e]
  refine ⟨_, rfl, ?_, ?_⟩
  · have := Nat.pow_le_pow_right (show 0 < 2 by decide) (show 4 ≤ 4 + n by omega)
    have h2 : ((2 ^ 4 : Nat) : Int) ≤ ((2 ^ (4 + n) : Nat) : Int) := Int.ofNat_le.2 this
    simpa using h2
  · have := Nat.pow_le_pow_right (show 0 < 2 by decide) (show 4 + n ≤ 30 by omega)
    have h2 : ((2 ^ (4 + n) : Nat) : Int) ≤ ((2 ^ 30 : Nat) : Int) := Int.ofNat_le.2 this
    simpa using h2

set_option maxHeartbeats 2000000 in
theorem interval_any (a b : Int) (w : World) :
    Calls Tryz.prog 29 #[.int .i64 a, .int .i64 b] w (IvP w) := by
  obtain ⟨bb, hbb⟩ : ∃ bb, (bits .and .i64 b 1 == 0) = bb := ⟨_, rfl⟩
  have r1 : 0 ≤ a / 8 % 27 := by omega
  have r2 : a / 8 % 27 ≤ 26 := by omega
  obtain ⟨K, hp, k1, k2⟩ := pow_bd _ r1 r2
  have HP := Lib.hid hp
  clear hp
  cases bb
  · skip
    go_enter Tryz.func29, Tryz.ntmps29
    go_wp2_with fail
    refine (round_any _ _ _ (by omega) (by omega)).mono ?_
    rintro e w1 ⟨rfl, rfl⟩
    have hp := HP.out
    generalize a / 8 % 27 = r at r1 r2 hp ⊢
    go_wp2_with fail
    refine (round_any _ _ _ (by omega) (by omega)).mono ?_
    rintro e w1 ⟨rfl, rfl⟩
    have x1 : 0 ≤ a % (2 * K + 1) := Int.emod_nonneg _ (by omega)
    have x2 : a % (2 * K + 1) < 2 * K + 1 := Int.emod_lt_of_pos _ (by omega)
    generalize a % (2 * K + 1) = x at x1 x2 ⊢
    go_wp2_with fail
    refine (round_any _ _ _ (by omega) (by omega)).mono ?_
    rintro e w1 ⟨rfl, rfl⟩
    have y1 : 0 ≤ b % (2 * K + 1) := Int.emod_nonneg _ (by omega)
    have y2 : b % (2 * K + 1) < 2 * K + 1 := Int.emod_lt_of_pos _ (by omega)
    generalize b % (2 * K + 1) = y at y1 y2 ⊢

    obtain ⟨cx, hcx⟩ : ∃ cx, clampI (x - K) = cx := ⟨_, rfl⟩
    obtain ⟨cy, hcy⟩ : ∃ cy, clampI (y - K) = cy := ⟨_, rfl⟩
    have bx := clampI_bd (x - K)
    have byy := clampI_bd (y - K)
    rw [hcx] at bx
    rw [hcy] at byy
    obtain ⟨bx1, bx2⟩ := bx
    obtain ⟨by1, by2⟩ := byy
    have Hcx := Lib.hid hcx
    have Hcy := Lib.hid hcy
    clear hcx hcy
    by_cases hlt : cy < cx
    all_goals
      go_wp2_with fail
      refine (clamp_any _ _).mono ?_
      rintro e w1 ⟨rfl, rfl⟩
      rw [Hcx.out]
      go_wp2_with fail
      refine (clamp_any _ _).mono ?_
      rintro e w1 ⟨rfl, rfl⟩
      rw [Hcy.out]
      go_wp2_with fail
      refine (clamp_any _ _).mono ?_
      rintro e w1 ⟨rfl, rfl⟩
      rw [Hcx.out]
      go_wp2_with fail
      refine (clamp_any _ _).mono ?_
      rintro e w1 ⟨rfl, rfl⟩
      rw [Hcy.out]
      go_wp2
      all_goals
        refine bodyPost_ret (v := .agg #[.int .i64 (if cy < cx then cy else cx), .int .i64 (if cy > cx then cy else cx)]) ?_ rfl (ivP_mk cx cy bx1 bx2 by1 by2 ((Below.refl _ _).alloc (Nat.le_refl _) _))
        first
          | (rw [if_pos (by omega), if_neg (by omega)]; simp [results, Tryz.results29, go_sem])
          | (rw [if_neg (by omega), if_pos (by omega)]; simp [results, Tryz.results29, go_sem])
          | (rw [if_neg (by omega), if_neg (by omega)]; simp [results, Tryz.results29, go_sem])
  · skip
    go_enter Tryz.func29, Tryz.ntmps29
    go_wp2_with fail
    refine (round_any _ _ _ (by omega) (by omega)).mono ?_
    rintro e w1 ⟨rfl, rfl⟩
    have hp := HP.out
    generalize a / 8 % 27 = r at r1 r2 hp ⊢
    go_wp2_with fail
    refine (round_any _ _ _ (by omega) (by omega)).mono ?_
    rintro e w1 ⟨rfl, rfl⟩
    have x1 : 0 ≤ a % (2 * K + 1) := Int.emod_nonneg _ (by omega)
    have x2 : a % (2 * K + 1) < 2 * K + 1 := Int.emod_lt_of_pos _ (by omega)
    generalize a % (2 * K + 1) = x at x1 x2 ⊢
    go_wp2_with fail
    refine (round_any _ _ _ (by omega) (by omega)).mono ?_
    rintro e w1 ⟨rfl, rfl⟩
    have y1 : 0 ≤ b % (2 * K + 1) := Int.emod_nonneg _ (by omega)
    have y2 : b % (2 * K + 1) < 2 * K + 1 := Int.emod_lt_of_pos _ (by omega)
    generalize b % (2 * K + 1) = y at y1 y2 ⊢
    go_wp2_with fail
    refine (round_any _ _ _ (by omega) (by omega)).mono ?_
    rintro e w1 ⟨rfl, rfl⟩
    have z1 : 0 ≤ b / 2 % (1 + K / 8) := Int.emod_nonneg _ (by omega)
    have z2 : b / 2 % (1 + K / 8) < 1 + K / 8 := Int.emod_lt_of_pos _ (by omega)
    generalize b / 2 % (1 + K / 8) = z at z1 z2 ⊢

    obtain ⟨cx, hcx⟩ : ∃ cx, clampI (x - K) = cx := ⟨_, rfl⟩
    obtain ⟨cy, hcy⟩ : ∃ cy, clampI (x - K + z) = cy := ⟨_, rfl⟩
    have bx := clampI_bd (x - K)
    have byy := clampI_bd (x - K + z)
    rw [hcx] at bx
    rw [hcy] at byy
    obtain ⟨bx1, bx2⟩ := bx
    obtain ⟨by1, by2⟩ := byy
    have Hcx := Lib.hid hcx
    have Hcy := Lib.hid hcy
    clear hcx hcy
    by_cases hlt : cy < cx
    all_goals
      go_wp2_with fail
      refine (clamp_any _ _).mono ?_
      rintro e w1 ⟨rfl, rfl⟩
      rw [Hcx.out]
      go_wp2_with fail
      refine (clamp_any _ _).mono ?_
      rintro e w1 ⟨rfl, rfl⟩
      rw [Hcy.out]
      go_wp2_with fail
      refine (clamp_any _ _).mono ?_
      rintro e w1 ⟨rfl, rfl⟩
      rw [Hcx.out]
      go_wp2_with fail
      refine (clamp_any _ _).mono ?_
      rintro e w1 ⟨rfl, rfl⟩
      rw [Hcy.out]
      go_wp2
      all_goals
        refine bodyPost_ret (v := .agg #[.int .i64 (if cy < cx then cy else cx), .int .i64 (if cy > cx then cy else cx)]) ?_ rfl (ivP_mk cx cy bx1 bx2 by1 by2 ((Below.refl _ _).alloc (Nat.le_refl _) _))
        first
          | (rw [if_pos (by omega), if_neg (by omega)]; simp [results, Tryz.results29, go_sem])
          | (rw [if_neg (by omega), if_pos (by omega)]; simp [results, Tryz.results29, go_sem])
          | (rw [if_neg (by omega), if_neg (by omega)]; simp [results, Tryz.results29, go_sem])
end Go.Proofs.En
