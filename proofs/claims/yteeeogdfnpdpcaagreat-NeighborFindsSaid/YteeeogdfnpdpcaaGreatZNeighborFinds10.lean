/-
  Texts put together: AwA AwB.
-/
import Derived.Test.YteeeogdfnpdpcaaGreatZNeighborFinds9
import Derived.Test.YteeeogdfnpdpcaaGreatProg
import Derived.KernelRfl
import Derived.Recover
import Derived.Tactics
import Derived.Tactics2
set_option linter.unusedVariables false
section
/-
  The law's sanity check, run: it returns true.
-/
namespace Go.Proofs
open Go.Am
def Tryz.esc (_ : FuncId) (_ : Nat) : Bool := true
def Tryz.xt : Xt := fun _ => none
/-- A method of a pointer type, its own: the receiver is the pointer. -/
theorem method_ptr {P : Program} {t el : TypeId} {name : String} {i : TypeInfo} {m : Method} {f : FuncId} (hi : P.info? t = some i) (hf : i.methods.find? (·.name == name) = some m) (hp : m.path = #[]) (hm : m.func = some (f, true)) (hu : P.underlying t = some (.pointer el)) (n : Nat) (v : Value) (w : World) :
    (method (n + 1) t v name).run P w = .ok (f, v) w := by
  unfold method
  have h1 : (typeInfo t).run P w = .ok i w := by simp [typeInfo, go_sem, hi]
  simp only [Sem.run_bind, h1, Result.andThen_ok, hf]
  simp [hp, hm, follow, receiverAt, run_underlying hu, Place.get]
def mtB (P : Program) : Bool := mtTab.all fun e => (match P.info? e.1 with
  | some i => match i.methods.find? (·.name == e.2.1) with
    | some m => m.path.isEmpty && (match m.func with
      | some (f, b) => Nat.beq f e.2.2 && b
      | none => false)
    | none => false
  | none => false) && (match P.underlying e.1 with
  | some (.pointer _) => true
  | _ => false)
theorem mtB_good {P : Program} (h : mtB P = true) : GoodM P := by
  intro e he v w
  have h1 := List.all_eq_true.1 h e he
  rw [Bool.and_eq_true] at h1
  obtain ⟨h1, h2⟩ := h1
  obtain ⟨n, hn⟩ : ∃ n, P.types.size + Made.depth = n + 1 := by
    cases hz : P.types.size + Made.depth with
    | zero =>
      exfalso
      have h0 : P.types.size = 0 := by omega
      have : P.info? e.1 = none ∨ Made.depth ≠ 0 := .inr (by unfold Made.depth; decide)
      rcases this with h3 | h3
      · rw [h3] at h1; cases h1
      · omega
    | succ n => exact ⟨n, rfl⟩
  rw [hn]
  split at h1
  · rename_i i hi
    split at h1
    · rename_i m hm
      rw [Bool.and_eq_true] at h1
      obtain ⟨h3, h4⟩ := h1
      split at h4
      · rename_i f b hf
        rw [Bool.and_eq_true] at h4
        obtain ⟨h5, rfl⟩ := h4
        have h6 := Nat.eq_of_beq_eq_true h5
        subst h6
        split at h2
        · rename_i el hu
          exact method_ptr hi hm (by simpa using h3) hf hu n v w
        · cases h2
      · cases h4
    · cases h1
  · cases h1
theorem Tryz.mtB_true : mtB Tryz.prog = true := by kernel_rfl
theorem Tryz.xt_good : GoodX Tryz.prog Tryz.xt := ⟨fun f e h => (by cases h), mtB_good Tryz.mtB_true⟩
theorem Tryz.mixed : Tryz.prog.follows .mixedOrders = true := by kernel_rfl
noncomputable def Tryz.namedB : Bool := Tryz.prog.funcs.toList.all fun fn => !(fn.name == "runtime.NumGoroutine")
theorem Tryz.namedB_true : Tryz.namedB = true := by kernel_rfl
theorem Tryz.named : Named Tryz.prog := by
  intro f fn h
  have := List.all_eq_true.1 Tryz.namedB_true fn (by
    have : fn ∈ Tryz.prog.funcs := Array.mem_of_getElem? h
    simpa using this)
  simpa using this
/-- The deferred closures do nothing where no panic is under way. -/
theorem Tryz.idle27 (x : Value) (w : World) : CallsD Tryz.prog 27 #[x] .returning w fun e u' w' => (∃ v, e = .returned v) ∧ u' = .returning ∧ w' = w := by
  refine callsD_of_wpS Tryz.func27 rfl fun c₀ cs hu => ?_
  apply wpS_seq
  apply wpS_region
  simp [wpOpsS, go_sem, recoverD, hu, Tryz.ntmps27, Exit.thenS]
  refine wpS_cond (t := false) (by simp [Act.eval, Array.replicate]) ?_
  simp only [Bool.false_eq_true, if_false]
  refine wpS_of_wp (wp_skip ?_)
  cases c₀
  simp_all [bodyPostS, results, Tryz.results27]
theorem Tryz.idle52 (x : Value) (w : World) : CallsD Tryz.prog 52 #[x] .returning w fun e u' w' => (∃ v, e = .returned v) ∧ u' = .returning ∧ w' = w := by
  refine callsD_of_wpS Tryz.func52 rfl fun c₀ cs hu => ?_
  apply wpS_seq
  apply wpS_region
  simp [wpOpsS, go_sem, recoverD, hu, Tryz.ntmps52, Exit.thenS]
  refine wpS_cond (t := false) (by simp [Act.eval, Array.replicate]) ?_
  simp only [Bool.false_eq_true, if_false]
  refine wpS_of_wp (wp_skip ?_)
  cases c₀
  simp_all [bodyPostS, results, Tryz.results52]
theorem Tryz.idle39 (x : Value) (w : World) : CallsD Tryz.prog 39 #[x] .returning w fun e u' w' => (∃ v, e = .returned v) ∧ u' = .returning ∧ w' = w := by
  refine callsD_of_wpS Tryz.func39 rfl fun c₀ cs hu => ?_
  apply wpS_seq
  apply wpS_region
  simp [wpOpsS, go_sem, recoverD, hu, Tryz.ntmps39, Exit.thenS]
  refine wpS_cond (t := false) (by simp [Act.eval, Array.replicate]) ?_
  simp only [Bool.false_eq_true, if_false]
  refine wpS_of_wp (wp_skip ?_)
  cases c₀
  simp_all [bodyPostS, results, Tryz.results39]
theorem Tryz.defs_good : GoodD Tryz.prog := fun g hg => by
  have h : g = 27 ∨ g = 52 ∨ g = 39 := by simpa [dfFns] using hg
  rcases h with h | h | h <;> subst h
  · exact ⟨by kernel_rfl, Tryz.idle27⟩
  · exact ⟨by kernel_rfl, Tryz.idle52⟩
  · exact ⟨by kernel_rfl, Tryz.idle39⟩
end Go.Proofs
end

section
/-
  The law's sanity check, run: it returns true, in every world.
-/
namespace Go.Am
def okB (r : Option (Value × Hp × List Nat)) : Bool := match r with
  | some (.bool b, _, _) => b
  | _ => false
theorem okB_some {r : Option (Value × Hp × List Nat)} (h : okB r = true) : ∃ H' md, r = some (.bool true, H', md) := by
  unfold okB at h
  split at h
  · rename_i b H' md; subst h; exact ⟨H', md, rfl⟩
  · cases h
end Go.Am
namespace Go.Proofs
open Go.Am Go.RowKit
theorem Tryz.awake_ok : okB (fcall Tryz.prog Tryz.xt Tryz.esc 1000 40 7 [] []) = true := by kernel_rfl
/-- The sanity check returns true, and nothing that stood before has changed. -/
theorem Tryz.awake (w : World) : Calls Tryz.prog 7 #[] w fun e w' => e = .returned (.bool true) ∧ Below w.heap.size w w' := by
  obtain ⟨H', md, hc⟩ := okB_some Tryz.awake_ok
  refine (fcall_calls Tryz.mixed Tryz.named Tryz.xt_good Tryz.defs_good hc rfl w).mono ?_
  rintro e w' ⟨h1, h2, h3, h4, h5, h6⟩
  exact ⟨h1, h2, h3, h4, h5, h6⟩
end Go.Proofs
end

