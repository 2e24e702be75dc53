/-
  The law's sanity check, run: it returns true, in every world.
-/
import Derived.Test.YthbfmjlcnfgnbaaGreatAwA
namespace Go.Am
def okB (r : Option (Value × Hp × List Nat)) : Bool := match r with
  | some (.bool b, _, _) => b
  | _ => false
theorem okB_some {r : Option (Value × Hp × List Nat)} (h : okB r = true) : ∃ H' md, r = some (.bool true, H', md) := by
  unfold okB at h
  split at h
  · rename_i b H' md; subst h; exact ⟨H', md, rfl⟩
  · cases h
end Go.Am
namespace Go.Proofs
open Go.Am Go.RowKit
theorem Tryz.awake_ok : okB (fcall Tryz.prog Tryz.xt Tryz.esc 200 24 16 [] []) = true := by kernel_rfl
/-- The sanity check returns true, and nothing that stood before has changed. -/
theorem Tryz.awake (w : World) : Calls Tryz.prog 16 #[] w fun e w' => e = .returned (.bool true) ∧ Below w.heap.size w w' := by
  obtain ⟨H', md, hc⟩ := okB_some Tryz.awake_ok
  refine (fcall_calls Tryz.mixed Tryz.named Tryz.xt_good hc rfl w).mono ?_
  rintro e w' ⟨h1, h2, h3, h4, h5, h6⟩
  exact ⟨h1, h2, h3, h4, h5, h6⟩
end Go.Proofs
