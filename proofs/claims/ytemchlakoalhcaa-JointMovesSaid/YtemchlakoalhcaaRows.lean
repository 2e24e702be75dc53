/-
  No cell of these rows narrows 'for every input' (looked for: loops, veiled, ifaces, maps, wideKeys, modest, calm, conditions, laid).
  DERIVED. THE GIVEN ROWS OF THIS SEAT. 6 by the template 'for every input the law returns true; each argument reads behind the call as it read before'; 0 by the template 'total and deterministic' (their statements: YtemchlakoalhcaaTotals.lean).
  GIVEN WITH THE SEED: the statements are not yours to turn. If you find one false, say at which input.
  Laid BY PROGRAM, IN A SANDBOX (cutbox-rows.mjs): the forced cells as the released guide's own fill.sh prints them over the translation a5868d634fcc8d23… (all of the seat's roots in one cut). By AI agents, Wed Nov 11 2026. No macro, syntax, notation, axiom, sorry.
-/
import Derived.Test.YtemchlakoalhcaaChecked
import GoSem.Claim
import GoSem.ClaimJoined
import GoSem.ClaimMapViews
import Derived.JoinedTies
import Derived.KernelRfl
namespace Go.Proofs.Ytemchlakoalhcaa
/- THE CELL 'sum', in the pinned program and in every row, IS THE sha256 OF THE DUMP (.gsa) THAT YtemchlakoalhcaaProg.lean LOADS. Nothing in Lean hashes anything: it is a label: what it is worth is what the hold of that sum in a sandbox is worth. -/
noncomputable def Try.pinned : Pinned := { name := "ytemchlakoalhcaa", sum := "a5868d634fcc8d23ab8229a49c62c2b0922d996c8f968f77fc76b3cbfd2214bd", checked := Try.checked }
namespace Rows
def none {H : Type} : Left H := { results := [], args := [] }

/-- 'armplanlaw37.JointAccepted': WHATEVER THE INPUT: true; the input reads as it did. -/
def jointAcceptedSpec : ChangeSpec := { name := "jointAccepted", fn := fun _ => fun
  | [d1, d2, d3, d4] => { results := [.lit (.bool true)], args := [d1, d2, d3, d4] }
  | _ => none }
def jointAcceptedRow : OpenClaim := { program := "ytemchlakoalhcaa", sum := "a5868d634fcc8d23ab8229a49c62c2b0922d996c8f968f77fc76b3cbfd2214bd", func := "armplan/armplanlaw37.JointAccepted", spec := "jointAccepted", unfollowed := true, recurses := true, plainKeys := false, apart := false }
def JointAcceptedSaid : Prop := jointAcceptedRow.holds Try.pinned (OpenSpec.ofChange jointAcceptedSpec)

/-- ITS FALSE NEIGHBOUR: 'it returns false'. Refute it at one input. -/
def jointAcceptedWrong : ChangeSpec := { name := "jointAccepted", fn := fun _ => fun
  | [d1, d2, d3, d4] => { results := [.lit (.bool false)], args := [d1, d2, d3, d4] }
  | _ => none }
def JointAcceptedWrongFalsely : Prop := jointAcceptedRow.holds Try.pinned (OpenSpec.ofChange jointAcceptedWrong)

/-- 'armplanlaw37.JointLeast': WHATEVER THE INPUT: true; the input reads as it did. -/
def jointLeastSpec : ChangeSpec := { name := "jointLeast", fn := fun _ => fun
  | [d1, d2, d3, d4] => { results := [.lit (.bool true)], args := [d1, d2, d3, d4] }
  | _ => none }
def jointLeastRow : OpenClaim := { program := "ytemchlakoalhcaa", sum := "a5868d634fcc8d23ab8229a49c62c2b0922d996c8f968f77fc76b3cbfd2214bd", func := "armplan/armplanlaw37.JointLeast", spec := "jointLeast", unfollowed := true, recurses := true, plainKeys := false, apart := false }
def JointLeastSaid : Prop := jointLeastRow.holds Try.pinned (OpenSpec.ofChange jointLeastSpec)

/-- ITS FALSE NEIGHBOUR: 'it returns false'. Refute it at one input. -/
def jointLeastWrong : ChangeSpec := { name := "jointLeast", fn := fun _ => fun
  | [d1, d2, d3, d4] => { results := [.lit (.bool false)], args := [d1, d2, d3, d4] }
  | _ => none }
def JointLeastWrongFalsely : Prop := jointLeastRow.holds Try.pinned (OpenSpec.ofChange jointLeastWrong)

/-- 'armplanlaw37.JointBetter': WHATEVER THE INPUT: true; the input reads as it did. -/
def jointBetterSpec : ChangeSpec := { name := "jointBetter", fn := fun _ => fun
  | [d1, d2, d3, d4, d5] => { results := [.lit (.bool true)], args := [d1, d2, d3, d4, d5] }
  | _ => none }
def jointBetterRow : OpenClaim := { program := "ytemchlakoalhcaa", sum := "a5868d634fcc8d23ab8229a49c62c2b0922d996c8f968f77fc76b3cbfd2214bd", func := "armplan/armplanlaw37.JointBetter", spec := "jointBetter", unfollowed := true, recurses := true, plainKeys := false, apart := false }
def JointBetterSaid : Prop := jointBetterRow.holds Try.pinned (OpenSpec.ofChange jointBetterSpec)

/-- ITS FALSE NEIGHBOUR: 'it returns false'. Refute it at one input. -/
def jointBetterWrong : ChangeSpec := { name := "jointBetter", fn := fun _ => fun
  | [d1, d2, d3, d4, d5] => { results := [.lit (.bool false)], args := [d1, d2, d3, d4, d5] }
  | _ => none }
def JointBetterWrongFalsely : Prop := jointBetterRow.holds Try.pinned (OpenSpec.ofChange jointBetterWrong)

/-- 'armplanlaw37.JointFree': WHATEVER THE INPUT: true; the input reads as it did. -/
def jointFreeSpec : ChangeSpec := { name := "jointFree", fn := fun _ => fun
  | [d1, d2, d3] => { results := [.lit (.bool true)], args := [d1, d2, d3] }
  | _ => none }
def jointFreeRow : OpenClaim := { program := "ytemchlakoalhcaa", sum := "a5868d634fcc8d23ab8229a49c62c2b0922d996c8f968f77fc76b3cbfd2214bd", func := "armplan/armplanlaw37.JointFree", spec := "jointFree", unfollowed := true, recurses := true, plainKeys := false, apart := false }
def JointFreeSaid : Prop := jointFreeRow.holds Try.pinned (OpenSpec.ofChange jointFreeSpec)

/-- ITS FALSE NEIGHBOUR: 'it returns false'. Refute it at one input. -/
def jointFreeWrong : ChangeSpec := { name := "jointFree", fn := fun _ => fun
  | [d1, d2, d3] => { results := [.lit (.bool false)], args := [d1, d2, d3] }
  | _ => none }
def JointFreeWrongFalsely : Prop := jointFreeRow.holds Try.pinned (OpenSpec.ofChange jointFreeWrong)

/-- 'armplanlaw37.JointMoves': WHATEVER THE INPUT: true; the input reads as it did. -/
def jointMovesSpec : ChangeSpec := { name := "jointMoves", fn := fun _ => fun
  | [d1, d2, d3, d4] => { results := [.lit (.bool true)], args := [d1, d2, d3, d4] }
  | _ => none }
def jointMovesRow : OpenClaim := { program := "ytemchlakoalhcaa", sum := "a5868d634fcc8d23ab8229a49c62c2b0922d996c8f968f77fc76b3cbfd2214bd", func := "armplan/armplanlaw37.JointMoves", spec := "jointMoves", unfollowed := true, recurses := true, plainKeys := false, apart := false }
def JointMovesSaid : Prop := jointMovesRow.holds Try.pinned (OpenSpec.ofChange jointMovesSpec)

/-- ITS FALSE NEIGHBOUR: 'it returns false'. Refute it at one input. -/
def jointMovesWrong : ChangeSpec := { name := "jointMoves", fn := fun _ => fun
  | [d1, d2, d3, d4] => { results := [.lit (.bool false)], args := [d1, d2, d3, d4] }
  | _ => none }
def JointMovesWrongFalsely : Prop := jointMovesRow.holds Try.pinned (OpenSpec.ofChange jointMovesWrong)

/-- 'armplanlaw37.JointCloses': WHATEVER THE INPUT: true; the input reads as it did. -/
def jointClosesSpec : ChangeSpec := { name := "jointCloses", fn := fun _ => fun
  | [d1, d2, d3] => { results := [.lit (.bool true)], args := [d1, d2, d3] }
  | _ => none }
def jointClosesRow : OpenClaim := { program := "ytemchlakoalhcaa", sum := "a5868d634fcc8d23ab8229a49c62c2b0922d996c8f968f77fc76b3cbfd2214bd", func := "armplan/armplanlaw37.JointCloses", spec := "jointCloses", unfollowed := true, recurses := true, plainKeys := false, apart := false }
def JointClosesSaid : Prop := jointClosesRow.holds Try.pinned (OpenSpec.ofChange jointClosesSpec)

/-- ITS FALSE NEIGHBOUR: 'it returns false'. Refute it at one input. -/
def jointClosesWrong : ChangeSpec := { name := "jointCloses", fn := fun _ => fun
  | [d1, d2, d3] => { results := [.lit (.bool false)], args := [d1, d2, d3] }
  | _ => none }
def JointClosesWrongFalsely : Prop := jointClosesRow.holds Try.pinned (OpenSpec.ofChange jointClosesWrong)

/- THE SECOND FORM. 'bulk': how many values and letters a reading holds, each counted each time it is reached (what is shared counts as often as it is met; a slice's spare places count too). A statement '..UptoSaid' is the law's where the arguments, and the package variables that the reading takes, are together of bulk at most 1048576: NARROWER than '..Said'. Prove '..Said' where nothing that the law and all that it calls make is longer than what came in: it says more and counts as full. Else prove '..UptoSaid'. A law counts once. -/
mutual
def uptoBulk {H : Type} : DataW H → Nat
  | .lit (.string bytes) => bytes.length + 1
  | .lit _ => 1
  | .nil => 1
  | .ptr d => uptoBulk d + 1
  | .slice elems spare => uptoBulkAll elems + uptoBulkAll spare + 1
  | .agg parts => uptoBulkAll parts + 1
  | .iface _ d => uptoBulk d + 1
  | .map entries => uptoBulkEntries entries + 1
  | .held _ => 1
def uptoBulkAll {H : Type} : List (DataW H) → Nat
  | [] => 0
  | d :: r => uptoBulk d + uptoBulkAll r
def uptoBulkEntries {H : Type} : List (Lit × DataW H) → Nat
  | [] => 0
  | x :: r => uptoBulkEntry x + uptoBulkEntries r
def uptoBulkEntry {H : Type} : Lit × DataW H → Nat
  | (.string bytes, d) => bytes.length + uptoBulk d + 1
  | (_, d) => uptoBulk d + 1
 end
def uptoSmall : (H : Type) → List (DataW H) → Bool := fun _ ds => decide (uptoBulkAll ds ≤ 1048576)
def OpenSpec.upto (s : _root_.Go.ChangeSpec) : _root_.Go.OpenSpec := { _root_.Go.OpenSpec.ofChange s with cond := some uptoSmall }

/-- 'armplanlaw37.JointAccepted', WHERE WHAT IT READS IS OF BULK AT MOST 1048576: true; the input reads as it did. -/
def jointAcceptedUptoRow : OpenClaim := { program := "ytemchlakoalhcaa", sum := "a5868d634fcc8d23ab8229a49c62c2b0922d996c8f968f77fc76b3cbfd2214bd", func := "armplan/armplanlaw37.JointAccepted", spec := "jointAccepted", unfollowed := true, recurses := true, plainKeys := false, apart := false, narrowed := true }
def JointAcceptedUptoSaid : Prop := jointAcceptedUptoRow.holds Try.pinned (OpenSpec.upto jointAcceptedSpec)

/-- 'armplanlaw37.JointLeast', WHERE WHAT IT READS IS OF BULK AT MOST 1048576: true; the input reads as it did. -/
def jointLeastUptoRow : OpenClaim := { program := "ytemchlakoalhcaa", sum := "a5868d634fcc8d23ab8229a49c62c2b0922d996c8f968f77fc76b3cbfd2214bd", func := "armplan/armplanlaw37.JointLeast", spec := "jointLeast", unfollowed := true, recurses := true, plainKeys := false, apart := false, narrowed := true }
def JointLeastUptoSaid : Prop := jointLeastUptoRow.holds Try.pinned (OpenSpec.upto jointLeastSpec)

/-- 'armplanlaw37.JointBetter', WHERE WHAT IT READS IS OF BULK AT MOST 1048576: true; the input reads as it did. -/
def jointBetterUptoRow : OpenClaim := { program := "ytemchlakoalhcaa", sum := "a5868d634fcc8d23ab8229a49c62c2b0922d996c8f968f77fc76b3cbfd2214bd", func := "armplan/armplanlaw37.JointBetter", spec := "jointBetter", unfollowed := true, recurses := true, plainKeys := false, apart := false, narrowed := true }
def JointBetterUptoSaid : Prop := jointBetterUptoRow.holds Try.pinned (OpenSpec.upto jointBetterSpec)

/-- 'armplanlaw37.JointFree', WHERE WHAT IT READS IS OF BULK AT MOST 1048576: true; the input reads as it did. -/
def jointFreeUptoRow : OpenClaim := { program := "ytemchlakoalhcaa", sum := "a5868d634fcc8d23ab8229a49c62c2b0922d996c8f968f77fc76b3cbfd2214bd", func := "armplan/armplanlaw37.JointFree", spec := "jointFree", unfollowed := true, recurses := true, plainKeys := false, apart := false, narrowed := true }
def JointFreeUptoSaid : Prop := jointFreeUptoRow.holds Try.pinned (OpenSpec.upto jointFreeSpec)

/-- 'armplanlaw37.JointMoves', WHERE WHAT IT READS IS OF BULK AT MOST 1048576: true; the input reads as it did. -/
def jointMovesUptoRow : OpenClaim := { program := "ytemchlakoalhcaa", sum := "a5868d634fcc8d23ab8229a49c62c2b0922d996c8f968f77fc76b3cbfd2214bd", func := "armplan/armplanlaw37.JointMoves", spec := "jointMoves", unfollowed := true, recurses := true, plainKeys := false, apart := false, narrowed := true }
def JointMovesUptoSaid : Prop := jointMovesUptoRow.holds Try.pinned (OpenSpec.upto jointMovesSpec)

/-- 'armplanlaw37.JointCloses', WHERE WHAT IT READS IS OF BULK AT MOST 1048576: true; the input reads as it did. -/
def jointClosesUptoRow : OpenClaim := { program := "ytemchlakoalhcaa", sum := "a5868d634fcc8d23ab8229a49c62c2b0922d996c8f968f77fc76b3cbfd2214bd", func := "armplan/armplanlaw37.JointCloses", spec := "jointCloses", unfollowed := true, recurses := true, plainKeys := false, apart := false, narrowed := true }
def JointClosesUptoSaid : Prop := jointClosesUptoRow.holds Try.pinned (OpenSpec.upto jointClosesSpec)

end Rows
end Go.Proofs.Ytemchlakoalhcaa
