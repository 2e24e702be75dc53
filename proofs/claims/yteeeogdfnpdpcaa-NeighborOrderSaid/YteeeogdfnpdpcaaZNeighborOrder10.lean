/-
  Texts put together: AwA AwB.
-/
import Derived.Test.YteeeogdfnpdpcaaZNeighborOrder9
import Derived.Test.YteeeogdfnpdpcaaProg
import Derived.KernelRfl
import Derived.Recover
import Derived.Tactics
import Derived.Tactics2
set_option linter.unusedVariables false
section
/-
  The law's sanity check, run: it returns true.
-/
namespace Go.Proofs
open Go.Am
def Try.esc (_ : FuncId) (_ : Nat) : Bool := true
def Try.xt : Xt := fun _ => none
/-- A method of a pointer type, its own: the receiver is the pointer. -/
theorem method_ptr {P : Program} {t el : TypeId} {name : String} {i : TypeInfo} {m : Method} {f : FuncId} (hi : P.info? t = some i) (hf : i.methods.find? (·.name == name) = some m) (hp : m.path = #[]) (hm : m.func = some (f, true)) (hu : P.underlying t = some (.pointer el)) (n : Nat) (v : Value) (w : World) :
    (method (n + 1) t v name).run P w = .ok (f, v) w := by
  unfold method
  have h1 : (typeInfo t).run P w = .ok i w := by simp [typeInfo, go_sem, hi]
  simp only [Sem.run_bind, h1, Result.andThen_ok, hf]
  simp [hp, hm, follow, receiverAt, run_underlying hu, Place.get]
def mtB (P : Program) : Bool := mtTab.all fun e => (match P.info? e.1 with
  | some i => match i.methods.find? (·.name == e.2.1) with
    | some m => m.path.isEmpty && (match m.func with
      | some (f, b) => Nat.beq f e.2.2 && b
      | none => false)
    | none => false
  | none => false) && (match P.underlying e.1 with
  | some (.pointer _) => true
  | _ => false)
theorem mtB_good {P : Program} (h : mtB P = true) : GoodM P := by
  intro e he v w
  have h1 := List.all_eq_true.1 h e he
  rw [Bool.and_eq_true] at h1
  obtain ⟨h1, h2⟩ := h1
  obtain ⟨n, hn⟩ : ∃ n, P.types.size + Made.depth = n + 1 := by
    cases hz : P.types.size + Made.depth with
    | zero =>
      exfalso
      have h0 : P.types.size = 0 := by omega
      have : P.info? e.1 = none ∨ Made.depth ≠ 0 := .inr (by unfold Made.depth; decide)
      rcases this with h3 | h3
      · rw [h3] at h1; cases h1
      · omega
    | succ n => exact ⟨n, rfl⟩
  rw [hn]
  split at h1
  · rename_i i hi
    split at h1
    · rename_i m hm
      rw [Bool.and_eq_true] at h1
      obtain ⟨h3, h4⟩ := h1
      split at h4
      · rename_i f b hf
        rw [Bool.and_eq_true] at h4
        obtain ⟨h5, rfl⟩ := h4
        have h6 := Nat.eq_of_beq_eq_true h5
        subst h6
        split at h2
        · rename_i el hu
          exact method_ptr hi hm (by simpa using h3) hf hu n v w
        · cases h2
      · cases h4
    · cases h1
  · cases h1
theorem Try.mtB_true : mtB Try.prog = true := by kernel_rfl
theorem Try.xt_good : GoodX Try.prog Try.xt := ⟨fun f e h => (by cases h), mtB_good Try.mtB_true⟩
theorem Try.mixed : Try.prog.follows .mixedOrders = true := by kernel_rfl
noncomputable def Try.namedB : Bool := Try.prog.funcs.toList.all fun fn => !(fn.name == "runtime.NumGoroutine")
theorem Try.namedB_true : Try.namedB = true := by kernel_rfl
theorem Try.named : Named Try.prog := by
  intro f fn h
  have := List.all_eq_true.1 Try.namedB_true fn (by
    have : fn ∈ Try.prog.funcs := Array.mem_of_getElem? h
    simpa using this)
  simpa using this
/-- The deferred closures do nothing where no panic is under way. -/
theorem Try.idle24 (x : Value) (w : World) : CallsD Try.prog 24 #[x] .returning w fun e u' w' => (∃ v, e = .returned v) ∧ u' = .returning ∧ w' = w := by
  refine callsD_of_wpS Try.func24 rfl fun c₀ cs hu => ?_
  apply wpS_seq
  apply wpS_region
  simp [wpOpsS, go_sem, recoverD, hu, Try.ntmps24, Exit.thenS]
  refine wpS_cond (t := false) (by simp [Act.eval, Array.replicate]) ?_
  simp only [Bool.false_eq_true, if_false]
  refine wpS_of_wp (wp_skip ?_)
  cases c₀
  simp_all [bodyPostS, results, Try.results24]
theorem Try.idle32 (x : Value) (w : World) : CallsD Try.prog 32 #[x] .returning w fun e u' w' => (∃ v, e = .returned v) ∧ u' = .returning ∧ w' = w := by
  refine callsD_of_wpS Try.func32 rfl fun c₀ cs hu => ?_
  apply wpS_seq
  apply wpS_region
  simp [wpOpsS, go_sem, recoverD, hu, Try.ntmps32, Exit.thenS]
  refine wpS_cond (t := false) (by simp [Act.eval, Array.replicate]) ?_
  simp only [Bool.false_eq_true, if_false]
  refine wpS_of_wp (wp_skip ?_)
  cases c₀
  simp_all [bodyPostS, results, Try.results32]
theorem Try.idle37 (x : Value) (w : World) : CallsD Try.prog 37 #[x] .returning w fun e u' w' => (∃ v, e = .returned v) ∧ u' = .returning ∧ w' = w := by
  refine callsD_of_wpS Try.func37 rfl fun c₀ cs hu => ?_
  apply wpS_seq
  apply wpS_region
  simp [wpOpsS, go_sem, recoverD, hu, Try.ntmps37, Exit.thenS]
  refine wpS_cond (t := false) (by simp [Act.eval, Array.replicate]) ?_
  simp only [Bool.false_eq_true, if_false]
  refine wpS_of_wp (wp_skip ?_)
  cases c₀
  simp_all [bodyPostS, results, Try.results37]
theorem Try.defs_good : GoodD Try.prog := fun g hg => by
  have h : g = 24 ∨ g = 32 ∨ g = 37 := by simpa [dfFns] using hg
  rcases h with h | h | h <;> subst h
  · exact ⟨by kernel_rfl, Try.idle24⟩
  · exact ⟨by kernel_rfl, Try.idle32⟩
  · exact ⟨by kernel_rfl, Try.idle37⟩
end Go.Proofs
end

section
/-
  The law's sanity check, run: it returns true, in every world.
-/
namespace Go.Am
def okB (r : Option (Value × Hp × List Nat)) : Bool := match r with
  | some (.bool b, _, _) => b
  | _ => false
theorem okB_some {r : Option (Value × Hp × List Nat)} (h : okB r = true) : ∃ H' md, r = some (.bool true, H', md) := by
  unfold okB at h
  split at h
  · rename_i b H' md; subst h; exact ⟨H', md, rfl⟩
  · cases h
end Go.Am
namespace Go.Proofs
open Go.Am Go.RowKit
theorem Try.awake_ok : okB (fcall Try.prog Try.xt Try.esc 1000 40 8 [] []) = true := by kernel_rfl
/-- The sanity check returns true, and nothing that stood before has changed. -/
theorem Try.awake (w : World) : Calls Try.prog 8 #[] w fun e w' => e = .returned (.bool true) ∧ Below w.heap.size w w' := by
  obtain ⟨H', md, hc⟩ := okB_some Try.awake_ok
  refine (fcall_calls Try.mixed Try.named Try.xt_good Try.defs_good hc rfl w).mono ?_
  rintro e w' ⟨h1, h2, h3, h4, h5, h6⟩
  exact ⟨h1, h2, h3, h4, h5, h6⟩
end Go.Proofs
end

