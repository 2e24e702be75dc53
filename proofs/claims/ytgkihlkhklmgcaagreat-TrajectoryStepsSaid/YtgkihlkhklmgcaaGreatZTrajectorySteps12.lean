/-
  Texts put together: AwB.
-/
import Derived.Test.YtgkihlkhklmgcaaGreatZTrajectorySteps10
import Derived.Test.YtgkihlkhklmgcaaGreatZTrajectorySteps11
set_option linter.unusedVariables false
namespace Go.Am
def okB (r : Option (Value × Hp × List Nat)) : Bool := match r with
  | some (.bool b, _, _) => b
  | _ => false
theorem okB_some {r : Option (Value × Hp × List Nat)} (h : okB r = true) : ∃ H' md, r = some (.bool true, H', md) := by
  unfold okB at h
  split at h
  · rename_i b H' md; subst h; exact ⟨H', md, rfl⟩
  · cases h
end Go.Am
namespace Go.Proofs
open Go.Am Go.RowKit
namespace Awk
abbrev I (n : Int) : Value := .int .i64 n
abbrev U (n : Int) : Value := .int .u64 n
abbrev P (b o : Nat) : Value := .pointer (some ⟨b, o, none⟩)
abbrev S (b o n c : Nat) : Value := .slice (some ⟨b, o, none⟩) n c
abbrev B (cs : List Value) (t e : Nat) (lo li : Bool) : Go.Am.Blk := ⟨cs, t, e, lo, li⟩
def h11 : Hp := [B [.string ⟨#[97]⟩, I (4), I (-1), I (0), I (0), I (0), I (0), I (1000), I (1), I (1000), I (1048576), I (1099511627776)] 64 12 true true,
  B [I (0)] 2 0 false true,
  B [I (1000)] 2 0 false true,
  B [S 1 0 1 1, S 2 0 1 1] 26 0 false true,
  B [I (0)] 2 1 true true,
  B [] 26 1 true false,
  B [I (1000)] 2 1 true true,
  B [S 4 0 1 1, S 6 0 1 1] 26 1 true true,
  B [I (0), I (0), .slice none 0 0] 155 0 false true,
  B [I (0), I (1000)] 196 2 true true,
  B [I (0), I (0), .slice none 0 0] 108 3 true true,
  B [I (0), I (0), .slice none 0 0] 108 3 true true,
  B [I (0), I (0), .slice none 0 0] 123 3 true true,
  B [.slice none 0 0, S 12 0 1 1] 78 2 true true]
def h12 : Hp := h11 ++ [B [I (0)] 3 0 false true,
  B [I (0)] 43 0 false true,
  B [S 18 0 1 1] 106 0 false true,
  B [.bool true] 4 0 false true,
  B [I (0), I (0), .slice none 0 0] 108 3 true true,
  B [I (0)] 3 0 false true,
  B [I (0)] 43 0 false true,
  B [I (0)] 3 0 false true,
  B [I (0)] 2 0 false true,
  B [I (0), I (1000)] 196 0 false true,
  B [.bool true] 4 0 false true,
  B [I (-1), I (0)] 3 0 false true,
  B [I (65536), I (65536), I (0), I (0), I (0), I (0), I (0), I (0), I (65536), I (65536), I (0), I (0), I (0), I (0), I (0), I (0), I (65536), I (65536), I (0), I (1000), I (0), I (0), I (0), I (0)] 287 0 false true,
  B [] 202 0 false true,
  B [] 2 0 false true,
  B [I (0)] 2 1 true true,
  B [] 26 1 true false,
  B [] 2 0 false true,
  B [I (1000)] 2 1 true true,
  B [S 29 0 1 1, S 32 0 1 1] 26 1 true true,
  B [] 123 0 false true,
  B [I (0), I (0), .slice none 0 0] 123 3 true true,
  B [.slice none 0 0, S 35 0 1 1] 78 2 true true,
  B [I (0), I (4096), I (0)] 2 0 false true,
  B [] 171 4 true false,
  B [I (1)] 3 0 false true,
  B [I (0)] 2 0 false true,
  B [I (0), I (500)] 196 0 false true,
  B [.bool false] 220 0 false true,
  B [I (1000), I (1000)] 54 0 false true,
  B [.bool false] 220 0 false true,
  B [I (65536), I (65536), I (0), I (0), I (0), I (0), I (0), I (0), I (65536), I (65536), I (0), I (0), I (0), I (0), I (0), I (0), I (65536), I (65536), I (0), I (500), I (0), I (0), I (0), I (0)] 287 0 false true,
  B [P 44 0, I (0), I (500), I (0), I (0), I (0), I (0)] 230 0 false true,
  B [P 44 0, I (65536), I (65536), I (0), I (0), I (0), I (0)] 230 7 true true,
  B [] 230 0 false true,
  B [] 230 0 false true,
  B [I (0), I (0)] 54 0 false true,
  B [I (0), I (0)] 54 0 false true,
  B [] 230 0 false true,
  B [I (0), I (0)] 54 0 false true,
  B [I (0), I (0), I (0), I (0), I (0), I (0)] 176 0 false true,
  B [I (0), I (-1), I (1), I (4096), I (0), I (1), I (-1), I (4096), I (1), I (-1), I (1), I (4096), I (1), I (1), I (-1), I (4096)] 171 4 true true,
  B [I (1)] 3 0 false true,
  B [I (1)] 2 0 false true,
  B [I (500), I (1000)] 196 0 false true,
  B [.bool false] 220 0 false true,
  B [I (1000), I (1000)] 54 0 false true,
  B [.bool false] 220 0 false true,
  B [I (65536), I (65536), I (0), I (0), I (0), I (0), I (0), I (0), I (65536), I (65536), I (0), I (0), I (0), I (0), I (0), I (0), I (65536), I (65536), I (500), I (1000), I (0), I (0), I (0), I (0)] 287 0 false true,
  B [P 61 0, I (500), I (1000), I (0), I (0), I (0), I (0)] 230 0 false true,
  B [P 61 0, I (65536), I (65536), I (0), I (0), I (0), I (0)] 230 7 true true,
  B [] 230 0 false true,
  B [] 230 0 false true,
  B [I (0), I (0)] 54 0 false true,
  B [I (0), I (0)] 54 0 false true,
  B [] 230 0 false true,
  B [I (0), I (0)] 54 0 false true,
  B [I (0), I (0), I (0), I (0), I (0), I (0)] 176 0 false true,
  B [] 2 0 false true,
  B [I (0), I (4096), I (0)] 2 1 true true,
  B [S 73 0 3 3, .slice none 0 0] 60 2 true true]
def h13 : Hp := h12 ++ [B [I (0)] 3 0 false true,
  B [I (0)] 43 0 false true,
  B [S 79 0 1 1] 106 0 false true,
  B [.bool true] 4 0 false true,
  B [I (0), I (0), .slice none 0 0] 108 3 true true,
  B [I (0)] 3 0 false true,
  B [I (0)] 43 0 false true,
  B [I (0)] 3 0 false true,
  B [I (0)] 2 0 false true,
  B [I (0), I (1000)] 196 0 false true,
  B [.bool true] 4 0 false true,
  B [I (-1), I (0)] 3 0 false true,
  B [I (65536), I (65536), I (0), I (0), I (0), I (0), I (0), I (0), I (65536), I (65536), I (0), I (0), I (0), I (0), I (0), I (0), I (65536), I (65536), I (0), I (1000), I (0), I (0), I (0), I (0)] 287 0 false true,
  B [] 202 0 false true,
  B [I (0), I (4096), I (0)] 2 0 false true,
  B [] 171 4 true false,
  B [I (1)] 3 0 false true,
  B [I (0)] 2 0 false true,
  B [I (0), I (500)] 196 0 false true,
  B [.bool false] 220 0 false true,
  B [I (1000), I (1000)] 54 0 false true,
  B [.bool false] 220 0 false true,
  B [I (65536), I (65536), I (0), I (0), I (0), I (0), I (0), I (0), I (65536), I (65536), I (0), I (0), I (0), I (0), I (0), I (0), I (65536), I (65536), I (0), I (500), I (0), I (0), I (0), I (0)] 287 0 false true,
  B [P 96 0, I (0), I (500), I (0), I (0), I (0), I (0)] 230 0 false true,
  B [P 96 0, I (65536), I (65536), I (0), I (0), I (0), I (0)] 230 7 true true,
  B [] 230 0 false true,
  B [] 230 0 false true,
  B [I (0), I (0)] 54 0 false true,
  B [I (0), I (0)] 54 0 false true,
  B [] 230 0 false true,
  B [I (0), I (0)] 54 0 false true,
  B [I (0), I (0), I (0), I (0), I (0), I (0)] 176 0 false true,
  B [I (0), I (-1), I (1), I (4096), I (0), I (1), I (-1), I (4096), I (1), I (-1), I (1), I (4096), I (1), I (1), I (-1), I (4096)] 171 4 true true,
  B [I (1)] 3 0 false true,
  B [I (1)] 2 0 false true,
  B [I (500), I (1000)] 196 0 false true,
  B [.bool false] 220 0 false true,
  B [I (1000), I (1000)] 54 0 false true,
  B [.bool false] 220 0 false true,
  B [I (65536), I (65536), I (0), I (0), I (0), I (0), I (0), I (0), I (65536), I (65536), I (0), I (0), I (0), I (0), I (0), I (0), I (65536), I (65536), I (500), I (1000), I (0), I (0), I (0), I (0)] 287 0 false true,
  B [P 113 0, I (500), I (1000), I (0), I (0), I (0), I (0)] 230 0 false true,
  B [P 113 0, I (65536), I (65536), I (0), I (0), I (0), I (0)] 230 7 true true,
  B [] 230 0 false true,
  B [] 230 0 false true,
  B [I (0), I (0)] 54 0 false true,
  B [I (0), I (0)] 54 0 false true,
  B [] 230 0 false true,
  B [I (0), I (0)] 54 0 false true,
  B [I (0), I (0), I (0), I (0), I (0), I (0)] 176 0 false true]
def a11 : List Value := [.agg ⟨[S 0 0 1 1, .slice none 0 0, .slice none 0 0, .slice none 0 0]⟩, .agg ⟨[I (0), I (0), I (0)]⟩, .agg ⟨[S 7 0 2 2, S 13 0 1 1]⟩, I (1)]
def v11 : Value := .tuple ⟨[.agg ⟨[S 33 0 2 2, S 36 0 1 1, I (0), I (0), I (0), I (1), S 74 0 1 1]⟩, I (0), .bool true]⟩
def m11 : List Nat := [16, 16, 17, 23, 25, 25, 26, 24, 19, 20, 14, 15, 30, 35, 41, 43, 45, 46, 53, 54, 38, 37, 38, 58, 60, 62, 63, 70, 71, 55]
def a12 : List Value := [.agg ⟨[S 0 0 1 1, .slice none 0 0, .slice none 0 0, .slice none 0 0]⟩, .agg ⟨[S 33 0 2 2, S 36 0 1 1, I (0), I (0), I (0), I (1), S 74 0 1 1]⟩]
def v12 : Value := .tuple ⟨[.agg ⟨[I (131072), I (131072)]⟩, .bool true]⟩
def m12 : List Nat := [77, 77, 78, 84, 86, 86, 87, 85, 80, 81, 75, 76, 93, 95, 97, 98, 105, 106, 90, 89, 90, 110, 112, 114, 115, 122, 123, 107]
noncomputable def O : Orc := fcall Tryz.prog Tryz.xt Tryz.esc 300 29
theorem run11 : isR (O 11 a11 h11) v11 h12 m11 = true := by kernel_rfl
theorem run12 : isR (O 12 a12 h12) v12 h13 m12 = true := by kernel_rfl
theorem run4 : okB (frun Tryz.prog Tryz.xt Tryz.esc 300 (hitO (hitO O 11 a11 h11 (v11, h12, m11)) 12 a12 h12 (v12, h13, m12)) 4 [] []) = true := by kernel_rfl
end Awk
open Awk
theorem Tryz.awake_ok : okB (fcall Tryz.prog Tryz.xt Tryz.esc 300 30 4 [] []) = true := by
  have h := run4
  rw [hitO_eq (O := O) (isR_eq run11), hitO_eq (O := O) (isR_eq run12)] at h
  exact h
/-- The sanity check returns true, and nothing that stood before has changed. -/
theorem Tryz.awake (w : World) : Calls Tryz.prog 4 #[] w fun e w' => e = .returned (.bool true) ∧ Below w.heap.size w w' := by
  obtain ⟨H', md, hc⟩ := okB_some Tryz.awake_ok
  refine (fcall_calls Tryz.mixed Tryz.named Tryz.xt_good Tryz.defs_good hc rfl w).mono ?_
  rintro e w' ⟨h1, h2, h3, h4, h5, h6⟩
  exact ⟨h1, h2, h3, h4, h5, h6⟩
end Go.Proofs
