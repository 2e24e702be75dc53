/-
  Walks: the made ranges.
-/
import Derived.Test.YthbfmjlcnfgnbaaGreatEd
import Derived.StillTailTactics
import Derived.Deep.RegionWith
import Derived.BigRegion
namespace Go.Proofs.En
open Go.RowKit

def SomeP (w : World) (e : Ending) (w' : World) : Prop := ∃ lo hi : Int, -2305843009213693952 ≤ lo ∧ lo ≤ hi ∧ hi ≤ 2305843009213693960 ∧ e = .returned (.agg #[.int .i64 lo, .int .i64 hi]) ∧ Below w.heap.size w w'

theorem pow_bd30 (r : Int) (r1 : 0 ≤ r) (r2 : r ≤ 29) : ∃ K : Int, (2 : Int) ^ r.toNat = K ∧ 1 ≤ K ∧ K ≤ 536870912 := by
  obtain ⟨n, rfl⟩ := Int.eq_ofNat_of_zero_le r1
  rw [Int.toNat_natCast]
  refine ⟨_, rfl, ?_, ?_⟩
  · have := Nat.pow_le_pow_right (show 0 < 2 by decide) (show 0 ≤ n by omega)
    have h2 : ((2 ^ 0 : Nat) : Int) ≤ ((2 ^ n : Nat) : Int) := Int.ofNat_le.2 this
    simpa using h2
  · have := Nat.pow_le_pow_right (show 0 < 2 by decide) (show n ≤ 29 by omega)
    have h2 : ((2 ^ n : Nat) : Int) ≤ ((2 ^ 29 : Nat) : Int) := Int.ofNat_le.2 this
    simpa using h2

set_option maxHeartbeats 2000000 in
theorem some_any (a b c : Int) (w : World) :
    Calls Tryz.prog 11 #[.int .i64 a, .int .i64 b, .int .i64 c] w (SomeP w) := by
  go_enter Tryz.func11, Tryz.ntmps11
  go_wp2_with fail
  refine (interval_any _ _ _).mono ?_
  rintro e w1 ⟨lo, hi, l1, l2, l3, rfl, hb⟩
  have z0 : w.heap.size < w1.heap.size := by have := hb.size; simp at this; omega
  obtain ⟨hc, hf⟩ := bcell hb
  go_wp2_with fail
  refine (round_any _ _ _ (by omega) (by omega)).mono ?_
  rintro e w2 ⟨rfl, rfl⟩
  have r1 : 0 ≤ c % 30 := by omega
  have r2 : c % 30 ≤ 29 := by omega
  obtain ⟨K, hp, k1, k2⟩ := pow_bd30 _ r1 r2
  generalize c % 30 = r at r1 r2 hp ⊢
  have m1 := mul_bd (a := lo) (b := K) (A := 2147483648) (B := 536870912) (by omega) (by omega) (by omega) (by omega)
  have m2 := mul_bd (a := hi) (b := K) (A := 2147483648) (B := 536870912) (by omega) (by omega) (by omega) (by omega)
  have m3 : lo * K ≤ hi * K := Int.mul_le_mul_of_nonneg_right l2 (by omega)
  go_wp2_with fail
  go_region_with ((go_at_call 14; refine (round_any _ _ _ (by omega) (by omega)).mono ?_; rintro e w' ⟨rfl, rfl⟩))
  all_goals
    go_wp2
    have s1 : 0 ≤ c / 32 % 9 := by omega
    have s2 : c / 32 % 9 ≤ 8 := by omega
    generalize c / 32 % 9 = q at s1 s2 ⊢
    have e1 : IntKind.i64.wrap (lo * K) = lo * K := IntWalk.i64_in _ (by omega)
    have e2 : IntKind.i64.wrap (hi * K) = hi * K := IntWalk.i64_in _ (by omega)
    have e3 : IntKind.i64.wrap (hi * K + q) = hi * K + q := IntWalk.i64_in _ (by omega)
    rw [e1, e2, e3]
    refine bodyPost_ret (v := .agg #[.int .i64 (lo * K), .int .i64 (hi * K + q)]) (by simp [results, Tryz.results11, go_sem, hc, z0]) rfl ⟨_, _, by omega, by omega, by omega, rfl, ?_⟩
    exact ((((below_call ((Below.refl _ _).alloc (Nat.le_refl _) _) hb).setCell (by simp) _).setCell (by simp) _).alloc (by simp [World.setCell]; omega) _).drew
end Go.Proofs.En
