/-
  Texts put together: AwA.
-/
import Derived.Test.YtgkihlkhklmgcaaGreatZTrajectorySteps9
import Derived.Test.YtgkihlkhklmgcaaGreatProg
import Derived.KernelRfl
import Derived.Recover
import Derived.Tactics
import Derived.Tactics2
set_option linter.unusedVariables false
namespace Go.Proofs
open Go.Am
def Tryz.escT : List (Nat × List Nat) := [(4, [13, 14, 15, 55]), (20, [5]), (25, [4, 5]), (42, [31]), (47, [2, 3]), (48, [8, 9]), (49, [5]), (50, [5]), (51, [5]), (52, [5]), (54, [58]), (62, [1]), (87, [58, 66, 70, 109]), (107, [47, 50]), (114, [6, 7]), (115, [6]), (116, [24, 27]), (118, [28]), (121, [14]), (122, [30]), (156, [12]), (170, [7]), (181, [42, 44]), (195, [7]), (211, [11]), (212, [1]), (215, [12]), (233, [27]), (254, [26]), (258, [10]), (261, [14]), (312, [23, 39]), (313, [27, 41]), (345, [1]), (347, [1])]
def Tryz.esc (f : FuncId) (t : Nat) : Bool := Tryz.escT.any fun x => Nat.beq x.1 f && x.2.any fun y => Nat.beq y t
/-- The functions without a body that the run meets: the model's own rows. -/
def Tryz.add64Entry : Array Value → Sem Value := (Extern.MathBitsCarry.rows.map (·.2)).headD fun _ => pure undef
def Tryz.sub64Entry : Array Value → Sem Value := ((Extern.MathBitsCarry.rows.map (·.2)).drop 1).headD fun _ => pure undef
def Tryz.xt : Xt := fun f => bif Nat.beq f 70 then some Tryz.add64Entry else bif Nat.beq f 218 then some Tryz.sub64Entry else none
/-- A method of a pointer type with a pointer receiver, or of a struct type with a receiver of that type. -/
theorem method_ptr {P : Program} {t el : TypeId} {name : String} {i : TypeInfo} {m : Method} {f : FuncId} (hi : P.info? t = some i) (hf : i.methods.find? (·.name == name) = some m) (hp : m.path = #[]) (hm : m.func = some (f, true)) (hu : P.underlying t = some (.pointer el)) (n : Nat) (v : Value) (w : World) :
    (method (n + 1) t v name).run P w = .ok (f, v) w := by
  unfold method
  have h1 : (typeInfo t).run P w = .ok i w := by simp [typeInfo, go_sem, hi]
  simp only [Sem.run_bind, h1, Result.andThen_ok, hf]
  simp [hp, hm, follow, receiverAt, run_underlying hu, Place.get]
theorem method_str {P : Program} {t : TypeId} {fs : Array Field} {name : String} {i : TypeInfo} {m : Method} {f : FuncId} (hi : P.info? t = some i) (hf : i.methods.find? (·.name == name) = some m) (hp : m.path = #[]) (hm : m.func = some (f, false)) (hu : P.underlying t = some (.struct fs)) (n : Nat) (v : Value) (w : World) :
    (method (n + 1) t v name).run P w = .ok (f, v) w := by
  unfold method
  have h1 : (typeInfo t).run P w = .ok i w := by simp [typeInfo, go_sem, hi]
  simp only [Sem.run_bind, h1, Result.andThen_ok, hf]
  simp [hp, hm, follow, receiverAt, run_underlying hu, Place.get]
def mtB (P : Program) : Bool := mtTab.all fun e => (match P.info? e.1 with
  | some i => match i.methods.find? (·.name == e.2.1) with
    | some m => m.path.isEmpty && (match m.func with
      | some (f, b) => Nat.beq f e.2.2 && (match P.underlying e.1 with
        | some (.pointer _) => b
        | some (.struct _) => !b
        | _ => false)
      | none => false)
    | none => false
  | none => false)
theorem mtB_good {P : Program} (h : mtB P = true) : GoodM P := by
  intro e he v w
  have h1 := List.all_eq_true.1 h e he
  obtain ⟨n, hn⟩ : ∃ n, P.types.size + Made.depth = n + 1 := by
    cases hz : P.types.size + Made.depth with
    | zero =>
      exfalso
      have h0 : P.types.size = 0 := by omega
      have : P.info? e.1 = none ∨ Made.depth ≠ 0 := .inr (by unfold Made.depth; decide)
      rcases this with h3 | h3
      · rw [h3] at h1; cases h1
      · omega
    | succ n => exact ⟨n, rfl⟩
  rw [hn]
  split at h1
  · rename_i i hi
    split at h1
    · rename_i m hm
      rw [Bool.and_eq_true] at h1
      obtain ⟨h3, h4⟩ := h1
      split at h4
      · rename_i f b hf
        rw [Bool.and_eq_true] at h4
        obtain ⟨h5, h2⟩ := h4
        have h6 := Nat.eq_of_beq_eq_true h5
        subst h6
        split at h2
        · rename_i el hu
          subst h2
          exact method_ptr hi hm (by simpa using h3) hf hu n v w
        · rename_i fs hu
          have hb : b = false := by simpa using h2
          subst hb
          exact method_str hi hm (by simpa using h3) hf hu n v w
        · cases h2
      · cases h4
    · cases h1
  · cases h1
theorem Tryz.mtB_true : mtB Tryz.prog = true := by kernel_rfl
theorem Tryz.xt_good : GoodX Tryz.prog Tryz.xt := by
  refine ⟨fun f e h => ?_, mtB_good Tryz.mtB_true⟩
  unfold Tryz.xt at h
  cases hf : Nat.beq f 70 with
  | true =>
    have hf' : f = 70 := Nat.eq_of_beq_eq_true hf
    subst hf'
    simp only [hf, cond_true, Option.some.injEq] at h
    subst h
    exact ⟨Tryz.f70, Tryz.func70, by kernel_rfl, by kernel_rfl, by kernel_rfl⟩
  | false =>
    rw [hf, cond_false] at h
    cases hg : Nat.beq f 218 with
    | false => rw [hg] at h; cases h
    | true =>
      have hf' : f = 218 := Nat.eq_of_beq_eq_true hg
      subst hf'
      simp only [hg, cond_true, Option.some.injEq] at h
      subst h
      exact ⟨Tryz.f218, Tryz.func218, by kernel_rfl, by kernel_rfl, by kernel_rfl⟩
theorem Tryz.mixed : Tryz.prog.follows .mixedOrders = true := by kernel_rfl
noncomputable def Tryz.namedB : Bool := Tryz.prog.funcs.toList.all fun fn => !(fn.name == "runtime.NumGoroutine")
theorem Tryz.namedB_true : Tryz.namedB = true := by kernel_rfl
theorem Tryz.named : Named Tryz.prog := by
  intro f fn h
  have := List.all_eq_true.1 Tryz.namedB_true fn (by
    have : fn ∈ Tryz.prog.funcs := Array.mem_of_getElem? h
    simpa using this)
  simpa using this
/-- The deferred closures do nothing where no panic is under way. -/
theorem Tryz.idle45 (x y : Value) (w : World) : CallsD Tryz.prog 45 #[x, y] .returning w fun e u' w' => (∃ v, e = .returned v) ∧ u' = .returning ∧ w' = w := by
  refine callsD_of_wpS Tryz.func45 rfl fun c₀ cs hu => ?_
  apply wpS_seq
  apply wpS_region
  simp [wpOpsS, go_sem, recoverD, hu, Tryz.ntmps45, Exit.thenS]
  refine wpS_cond (t := false) (by simp [Act.eval, Array.replicate]) ?_
  simp only [Bool.false_eq_true, if_false]
  refine wpS_of_wp (wp_skip ?_)
  cases c₀
  simp_all [bodyPostS, results, Tryz.results45]
theorem Tryz.idle81 (x y : Value) (w : World) : CallsD Tryz.prog 81 #[x, y] .returning w fun e u' w' => (∃ v, e = .returned v) ∧ u' = .returning ∧ w' = w := by
  refine callsD_of_wpS Tryz.func81 rfl fun c₀ cs hu => ?_
  apply wpS_seq
  apply wpS_region
  simp [wpOpsS, go_sem, recoverD, hu, Tryz.ntmps81, Exit.thenS]
  refine wpS_cond (t := false) (by simp [Act.eval, Array.replicate]) ?_
  simp only [Bool.false_eq_true, if_false]
  refine wpS_of_wp (wp_skip ?_)
  cases c₀
  simp_all [bodyPostS, results, Tryz.results81]
theorem Tryz.idle82 (x y : Value) (w : World) : CallsD Tryz.prog 82 #[x, y] .returning w fun e u' w' => (∃ v, e = .returned v) ∧ u' = .returning ∧ w' = w := by
  refine callsD_of_wpS Tryz.func82 rfl fun c₀ cs hu => ?_
  apply wpS_seq
  apply wpS_region
  simp [wpOpsS, go_sem, recoverD, hu, Tryz.ntmps82, Exit.thenS]
  refine wpS_cond (t := false) (by simp [Act.eval, Array.replicate]) ?_
  simp only [Bool.false_eq_true, if_false]
  refine wpS_of_wp (wp_skip ?_)
  cases c₀
  simp_all [bodyPostS, results, Tryz.results82]
theorem Tryz.idle159 (x : Value) (w : World) : CallsD Tryz.prog 159 #[x] .returning w fun e u' w' => (∃ v, e = .returned v) ∧ u' = .returning ∧ w' = w := by
  refine callsD_of_wpS Tryz.func159 rfl fun c₀ cs hu => ?_
  apply wpS_seq
  apply wpS_region
  simp [wpOpsS, go_sem, recoverD, hu, Tryz.ntmps159, Exit.thenS]
  refine wpS_cond (t := false) (by simp [Act.eval, Array.replicate]) ?_
  simp only [Bool.false_eq_true, if_false]
  refine wpS_of_wp (wp_skip ?_)
  cases c₀
  simp_all [bodyPostS, results, Tryz.results159]
theorem Tryz.defs_good : GoodD Tryz.prog := fun g xs hg => by
  have h : (g = 45 ∧ xs.length = 2) ∨ (g = 81 ∧ xs.length = 2) ∨ (g = 82 ∧ xs.length = 2) ∨ (g = 159 ∧ xs.length = 1) := by
    simp only [dfOkB, dfFns, List.any_cons, List.any_nil, Bool.or_false, Bool.or_eq_true, Bool.and_eq_true] at hg
    rcases hg with ⟨h1, h2⟩ | ⟨h1, h2⟩ | ⟨h1, h2⟩ | ⟨h1, h2⟩
    · exact .inl ⟨(Nat.eq_of_beq_eq_true h1).symm, (Nat.eq_of_beq_eq_true h2).symm⟩
    · exact .inr (.inl ⟨(Nat.eq_of_beq_eq_true h1).symm, (Nat.eq_of_beq_eq_true h2).symm⟩)
    · exact .inr (.inr (.inl ⟨(Nat.eq_of_beq_eq_true h1).symm, (Nat.eq_of_beq_eq_true h2).symm⟩))
    · exact .inr (.inr (.inr ⟨(Nat.eq_of_beq_eq_true h1).symm, (Nat.eq_of_beq_eq_true h2).symm⟩))
  rcases h with ⟨rfl, h⟩ | ⟨rfl, h⟩ | ⟨rfl, h⟩ | ⟨rfl, h⟩
  · match xs, h with
    | [x, y], _ => exact ⟨by kernel_rfl, Tryz.idle45 x y⟩
  · match xs, h with
    | [x, y], _ => exact ⟨by kernel_rfl, Tryz.idle81 x y⟩
  · match xs, h with
    | [x, y], _ => exact ⟨by kernel_rfl, Tryz.idle82 x y⟩
  · match xs, h with
    | [x], _ => exact ⟨by kernel_rfl, Tryz.idle159 x⟩
end Go.Proofs
