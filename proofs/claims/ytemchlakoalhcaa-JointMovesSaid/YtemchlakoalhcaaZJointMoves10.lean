/-
  Texts put together: AwA AwB.
-/
import Derived.Test.YtemchlakoalhcaaZJointMoves9
import Derived.Test.YtemchlakoalhcaaProg
import Derived.KernelRfl
import Derived.Recover
import Derived.Tactics
import Derived.Tactics2
set_option linter.unusedVariables false
section
/-
  The law's sanity check, run: it returns true.
-/
namespace Go.Proofs
open Go.Am
def Try.escT : List (Nat × List Nat) := [(9, [34]), (12, [69]), (13, [8, 12, 16, 17, 37, 38, 39]), (16, [53]), (18, [43]), (21, [3, 6]), (25, [5]), (27, [7, 11, 12]), (31, [27, 29]), (32, [2, 6, 8]), (33, [16, 26]), (34, [13]), (41, [47, 161]), (44, [18]), (46, [25, 34]), (51, [3]), (52, [5]), (55, [3, 4, 5]), (56, [4, 16]), (76, [7]), (77, [9])]
def Try.esc (f : FuncId) (t : Nat) : Bool := Try.escT.any fun x => Nat.beq x.1 f && x.2.any fun y => Nat.beq y t
def Try.xt : Xt := fun _ => none
theorem Try.xt_good : GoodX Try.prog Try.xt := fun f e h => by cases h
theorem Try.mixed : Try.prog.follows .mixedOrders = true := by kernel_rfl
noncomputable def Try.namedB : Bool := Try.prog.funcs.toList.all fun fn => !(fn.name == "runtime.NumGoroutine")
theorem Try.namedB_true : Try.namedB = true := by kernel_rfl
theorem Try.named : Named Try.prog := by
  intro f fn h
  have := List.all_eq_true.1 Try.namedB_true fn (by
    have : fn ∈ Try.prog.funcs := Array.mem_of_getElem? h
    simpa using this)
  simpa using this
/-- The deferred closure does nothing where no panic is under way. -/
theorem Try.idle (x : Value) (w : World) : CallsD Try.prog 67 #[x] .returning w fun e u' w' => (∃ v, e = .returned v) ∧ u' = .returning ∧ w' = w := by
  refine callsD_of_wpS Try.func67 rfl fun c₀ cs hu => ?_
  apply wpS_seq
  apply wpS_region
  simp [wpOpsS, go_sem, recoverD, hu, Try.ntmps67, Exit.thenS]
  refine wpS_cond (t := false) (by simp [Act.eval, Array.replicate]) ?_
  simp only [Bool.false_eq_true, if_false]
  refine wpS_of_wp (wp_skip ?_)
  cases c₀
  simp_all [bodyPostS, results, Try.results67]
theorem Try.defs_good : GoodD Try.prog := fun g hg => by
  have : g = 67 := by simpa [dfFns] using hg
  subst this
  exact ⟨by kernel_rfl, Try.idle⟩
end Go.Proofs
end

section
/-
  The law's sanity check, run: it returns true, in every world.
-/
namespace Go.Am
def okB (r : Option (Value × Hp × List Nat)) : Bool := match r with
  | some (.bool b, _, _) => b
  | _ => false
theorem okB_some {r : Option (Value × Hp × List Nat)} (h : okB r = true) : ∃ H' md, r = some (.bool true, H', md) := by
  unfold okB at h
  split at h
  · rename_i b H' md; subst h; exact ⟨H', md, rfl⟩
  · cases h
end Go.Am
namespace Go.Proofs
open Go.Am Go.RowKit
theorem Try.awake_ok : okB (fcall Try.prog Try.xt Try.esc 400 24 13 [] []) = true := by kernel_rfl
/-- The sanity check returns true, and nothing that stood before has changed. -/
theorem Try.awake (w : World) : Calls Try.prog 13 #[] w fun e w' => e = .returned (.bool true) ∧ Below w.heap.size w w' := by
  obtain ⟨H', md, hc⟩ := okB_some Try.awake_ok
  refine (fcall_calls Try.mixed Try.named Try.xt_good Try.defs_good hc rfl w).mono ?_
  rintro e w' ⟨h1, h2, h3, h4, h5, h6⟩
  exact ⟨h1, h2, h3, h4, h5, h6⟩
end Go.Proofs
end

