/-
  The law's sanity check, run: it returns true.
-/
import Derived.Test.YthbfmjlcnfgnbaaGreatFmF
import Derived.Test.YthbfmjlcnfgnbaaGreatProg
import Derived.KernelRfl
namespace Go.Proofs
open Go.Am
def Tryz.escT : List (Nat × List Nat) := [(7, [24, 28, 31]), (16, [8, 9]), (20, [58, 66, 70, 109]), (26, [24, 27]), (35, [5, 10]), (37, [5]), (39, [6, 7]), (41, [28]), (44, [14]), (45, [30]), (64, [12]), (73, [7]), (86, [1]), (98, [11]), (99, [1]), (102, [12]), (164, [23, 39]), (165, [27, 41])]
def Tryz.esc (f : FuncId) (t : Nat) : Bool := Tryz.escT.any fun x => Nat.beq x.1 f && x.2.any fun y => Nat.beq y t

/-- The one function without a body that the run meets: the model's own row. -/
def Tryz.add64Entry : Array Value → Sem Value := (Extern.MathBitsCarry.rows.map (·.2)).headD fun _ => pure undef
def Tryz.xt : Xt := fun f => bif Nat.beq f 60 then some Tryz.add64Entry else none
theorem Tryz.xt_good : GoodX Tryz.prog Tryz.xt := by
  intro f e h
  unfold Tryz.xt at h
  cases hf : Nat.beq f 60 with
  | false => rw [hf] at h; cases h
  | true =>
    have hf' : f = 60 := Nat.eq_of_beq_eq_true hf
    subst hf'
    simp only [hf, cond_true, Option.some.injEq] at h
    subst h
    exact ⟨Tryz.f60, Tryz.func60, by kernel_rfl, by kernel_rfl, by kernel_rfl⟩
theorem Tryz.mixed : Tryz.prog.follows .mixedOrders = true := by kernel_rfl
noncomputable def Tryz.namedB : Bool := Tryz.prog.funcs.toList.all fun fn => !(fn.name == "runtime.NumGoroutine")
theorem Tryz.namedB_true : Tryz.namedB = true := by kernel_rfl
theorem Tryz.named : Named Tryz.prog := by
  intro f fn h
  have := List.all_eq_true.1 Tryz.namedB_true fn (by
    have : fn ∈ Tryz.prog.funcs := Array.mem_of_getElem? h
    simpa using this)
  simpa using this
end Go.Proofs
