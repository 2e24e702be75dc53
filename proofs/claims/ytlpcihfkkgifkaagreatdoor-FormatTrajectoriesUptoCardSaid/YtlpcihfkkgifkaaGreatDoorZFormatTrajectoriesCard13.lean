/-
  Texts put together: Pi.
-/
import Derived.Test.YtlpcihfkkgifkaaGreatDoorZFormatTrajectoriesCard6
set_option linter.unusedVariables false
namespace Go.Proofs.Fm
open Go.Lib

theorem rdPath_none2 {ls q : List (List UInt8)} {n : Nat} (h1 : rdN kwPath 1 ls = some ([(n : Int)], q)) (h2 : rep (rdLine kwPoint) n q = none) : rdPath ls = none := by
  unfold rdPath
  rw [h1]
  simp only [Int.toNat_natCast]
  rw [h2]
  by_cases e : cntOk (n : Int) = true
  · rw [if_pos e]
  · rw [if_neg e]
theorem rdPath_none3 {ls q q2 : List (List UInt8)} {n : Nat} {ps : List (List Int)} (h1 : rdN kwPath 1 ls = some ([(n : Int)], q)) (h2 : rep (rdLine kwPoint) n q = some (ps, q2)) (h3 : rep rdEdge (n - 1) q2 = none) : rdPath ls = none := by
  unfold rdPath
  rw [h1]
  simp only [Int.toNat_natCast]
  rw [h2]
  simp only
  rw [h3]
  by_cases e : cntOk (n : Int) = true
  · rw [if_pos e]
  · rw [if_neg e]
end Go.Proofs.Fm
