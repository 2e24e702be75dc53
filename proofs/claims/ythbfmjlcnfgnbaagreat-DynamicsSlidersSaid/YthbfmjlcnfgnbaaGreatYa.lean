/-
  The symbolic machine over this seat's program.
-/
import Derived.Test.YthbfmjlcnfgnbaaGreatSb
import Derived.Test.YthbfmjlcnfgnbaaGreatAwA
import Derived.WalkKit
namespace Go.Proofs
open Go.Sm Go.RowKit
theorem Tryz.namedS : Go.Sm.Named Tryz.prog := Tryz.named

def var (i : Nat) : Value := mk 0 (.int .i64 i) []
/-- The arithmetic of 64 bits. -/
def wr (n : Int) : Int := IntKind.i64.wrap n
def mn (a b : Int) : Int := if b < a then b else a
def mx (a b : Int) : Int := if a < b then b else a
def band (a b : Int) : Int := IntKind.i64.wrap (BitVec.ofInt IntKind.i64.bits a &&& BitVec.ofInt IntKind.i64.bits b).toNat
theorem list_succ {A : Type} {l : List A} {n : Nat} (h : l.length = n + 1) : ∃ a t, l = a :: t ∧ t.length = n := by
  cases l with
  | nil => simp at h
  | cons a t => exact ⟨a, t, rfl, by simpa using h⟩
theorem sat_nil (E : Env) : Sat E [] := fun p h => by cases h
theorem sat_cons {E : Env} {c b : Value} {g : List (Value × Value)} (h : ∃ d x, evS E d c = some x ∧ evS E d b = some x) (hg : Sat E g) : Sat E ((c, b) :: g) := by
  intro p hp
  rcases List.mem_cons.1 hp with rfl | hp
  · exact h
  · exact hg p hp
theorem conRs_env {E E' : Env} (h1 : E.fn = E'.fn) (h2 : E.fnB = E'.fnB) (l : List Int) : ∀ (j : Nat) (rs : List RSh), conRs E l j rs = conRs E' l j rs
  | _, [] => rfl
  | j, r :: rs => by
    have : conR E j l r = conR E' j l r := by cases r <;> simp [conR, h1, h2]
    simp only [conRs, this, conRs_env h1 h2 l (j + r.wid) rs]
theorem entOk_env {P : Program} {E E' : Env} (h1 : E.fn = E'.fn) (h2 : E.fnB = E'.fnB) {e : Ent} (h : EntOk P E e) : EntOk P E' e := by
  intro l w hl
  rw [← conRs_env h1 h2]
  exact h l w hl

/-! ### Two ranges are compared -/
theorem inEq (d : Nat) (a c : Int) (w : World) : (Op.equalIn (d + 1) 2 (.int .i64 a) (.int .i64 c)).run Tryz.prog w = .ok (a == c) w := by
  rw [Op.equalIn]
  simp only [Sem.run_bind, run_underlying Tryz.underlying2, Result.andThen_ok, if_true, Sem.run_pure]
theorem eq23in (d : Nat) (a b c e : Int) (w : World) : (Op.equalIn (d + 2) 23 (.agg #[.int .i64 a, .int .i64 b]) (.agg #[.int .i64 c, .int .i64 e])).run Tryz.prog w = .ok (a == c && b == e) w := by
  have h1 : Tryz.prog.stoodInHeld 23 = false := by kernel_rfl
  have p0 : ∀ x y : Int, (part 2 #[.int .i64 x, .int .i64 y] 0).run Tryz.prog w = .ok (.int .i64 x) w := fun x y => by
    simp [part]
  have p1 : ∀ x y : Int, (part 2 #[.int .i64 x, .int .i64 y] 1).run Tryz.prog w = .ok (.int .i64 y) w := fun x y => by
    simp [part]
  rw [Op.equalIn]
  simp only [Sem.run_bind, run_underlying Tryz.underlying23, Result.andThen_ok, program, Sem.run, h1, Bool.false_eq_true, if_false]
  cases hac : (a == c) <;> cases hbe : (b == e) <;> simp [Sem.run_bind, p0, p1, inEq, hac, hbe]
theorem eqOk23 (l : Env) (g : List (Value × Value)) (x : FuncId → Option (Array Value → Sem Value)) : EqOk Tryz.prog ⟨x, l, g, [23]⟩ := by
  intro t ht o x y z ρ a b c d w ho hx hy
  have ht' : t = 23 := by simpa using ht
  subst ht'
  have hg : Tryz.prog.eqGuardType Tryz.prog.depth 23 = false := by kernel_rfl
  have he : (Op.equal 23 (.agg #[.int .i64 a, .int .i64 b]) (.agg #[.int .i64 c, .int .i64 d])).run Tryz.prog w = .ok (a == c && b == d) w := eq23in 9998 a b c d w
  unfold execOp
  rw [ho]
  simp [hx, hy, eqGuard, binOp, program, Sem.run, hg, he]
theorem extGood : ∀ f e, Tryz.xt f = some e → ∃ fn, Tryz.prog.funcs[f]? = some fn ∧ fn.body.isNone = true ∧ Extern.findNext fn = none ∧ Extern.find fn = some e := Tryz.xt_good
end Go.Proofs
