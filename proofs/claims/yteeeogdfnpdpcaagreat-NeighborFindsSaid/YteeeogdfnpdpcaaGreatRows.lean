/-
  No cell of these rows narrows 'for every input' (looked for: loops, veiled, ifaces, maps, wideKeys, modest, calm, conditions, laid).
  DERIVED. THE GIVEN ROWS OF THIS SEAT. 3 by the template 'for every input the law returns true; each argument reads behind the call as it read before'; 0 by the template 'total and deterministic' (their statements: YteeeogdfnpdpcaaGreatTotals.lean).
  GIVEN WITH THE SEED: the statements are not yours to turn. If you find one false, say at which input.
  Laid BY PROGRAM, IN A SANDBOX (cutbox-rows.mjs): the forced cells as the released guide's own fill.sh prints them over the translation d5565fd0221c416f… (all of the seat's roots in one cut). By AI agents, Wed Nov 11 2026. No macro, syntax, notation, axiom, sorry.
-/
import Derived.Test.YteeeogdfnpdpcaaGreatChecked
import GoSem.Claim
import GoSem.ClaimJoined
import GoSem.ClaimMapViews
import Derived.JoinedTies
import Derived.KernelRfl
namespace Go.Proofs.YteeeogdfnpdpcaaGreat
/- THE CELL 'sum', in the pinned program and in every row, IS THE sha256 OF THE DUMP (.gsa) THAT YteeeogdfnpdpcaaGreatProg.lean LOADS. Nothing in Lean hashes anything: it is a label: what it is worth is what the hold of that sum in a sandbox is worth. -/
noncomputable def Tryz.pinned : Pinned := { name := "yteeeogdfnpdpcaagreat", sum := "d5565fd0221c416fc41af7e043e6d344c4c09f2442b3d1bd8d6ee257d12b78ef", checked := Tryz.checked }
namespace Rows
def none {H : Type} : Left H := { results := [], args := [] }

/-- 'armplanlaw24.NeighborFinds': WHATEVER THE INPUT: true; the input reads as it did. -/
def neighborFindsSpec : ChangeSpec := { name := "neighborFinds", fn := fun _ => fun
  | [d1, d2, d3, d4, d5, d6, d7, d8, d9] => { results := [.lit (.bool true)], args := [d1, d2, d3, d4, d5, d6, d7, d8, d9] }
  | _ => none }
def neighborFindsRow : OpenClaim := { program := "yteeeogdfnpdpcaagreat", sum := "d5565fd0221c416fc41af7e043e6d344c4c09f2442b3d1bd8d6ee257d12b78ef", func := "armplan/armplanlaw24.NeighborFinds", spec := "neighborFinds", unfollowed := true, recurses := true, apart := false }
def NeighborFindsSaid : Prop := neighborFindsRow.holds Tryz.pinned (OpenSpec.ofChange neighborFindsSpec)

/-- ITS FALSE NEIGHBOUR: 'it returns false'. Refute it at one input. -/
def neighborFindsWrong : ChangeSpec := { name := "neighborFinds", fn := fun _ => fun
  | [d1, d2, d3, d4, d5, d6, d7, d8, d9] => { results := [.lit (.bool false)], args := [d1, d2, d3, d4, d5, d6, d7, d8, d9] }
  | _ => none }
def NeighborFindsWrongFalsely : Prop := neighborFindsRow.holds Tryz.pinned (OpenSpec.ofChange neighborFindsWrong)

/-- 'armplanlaw24.NeighborRadius': WHATEVER THE INPUT: true; the input reads as it did. -/
def neighborRadiusSpec : ChangeSpec := { name := "neighborRadius", fn := fun _ => fun
  | [d1, d2, d3, d4] => { results := [.lit (.bool true)], args := [d1, d2, d3, d4] }
  | _ => none }
def neighborRadiusRow : OpenClaim := { program := "yteeeogdfnpdpcaagreat", sum := "d5565fd0221c416fc41af7e043e6d344c4c09f2442b3d1bd8d6ee257d12b78ef", func := "armplan/armplanlaw24.NeighborRadius", spec := "neighborRadius", unfollowed := true, recurses := true, apart := false }
def NeighborRadiusSaid : Prop := neighborRadiusRow.holds Tryz.pinned (OpenSpec.ofChange neighborRadiusSpec)

/-- ITS FALSE NEIGHBOUR: 'it returns false'. Refute it at one input. -/
def neighborRadiusWrong : ChangeSpec := { name := "neighborRadius", fn := fun _ => fun
  | [d1, d2, d3, d4] => { results := [.lit (.bool false)], args := [d1, d2, d3, d4] }
  | _ => none }
def NeighborRadiusWrongFalsely : Prop := neighborRadiusRow.holds Tryz.pinned (OpenSpec.ofChange neighborRadiusWrong)

/-- 'armplanlaw24.NeighborFree': WHATEVER THE INPUT: true; the input reads as it did. -/
def neighborFreeSpec : ChangeSpec := { name := "neighborFree", fn := fun _ => fun
  | [d1, d2, d3, d4, d5] => { results := [.lit (.bool true)], args := [d1, d2, d3, d4, d5] }
  | _ => none }
def neighborFreeRow : OpenClaim := { program := "yteeeogdfnpdpcaagreat", sum := "d5565fd0221c416fc41af7e043e6d344c4c09f2442b3d1bd8d6ee257d12b78ef", func := "armplan/armplanlaw24.NeighborFree", spec := "neighborFree", unfollowed := true, recurses := true, apart := false }
def NeighborFreeSaid : Prop := neighborFreeRow.holds Tryz.pinned (OpenSpec.ofChange neighborFreeSpec)

/-- ITS FALSE NEIGHBOUR: 'it returns false'. Refute it at one input. -/
def neighborFreeWrong : ChangeSpec := { name := "neighborFree", fn := fun _ => fun
  | [d1, d2, d3, d4, d5] => { results := [.lit (.bool false)], args := [d1, d2, d3, d4, d5] }
  | _ => none }
def NeighborFreeWrongFalsely : Prop := neighborFreeRow.holds Tryz.pinned (OpenSpec.ofChange neighborFreeWrong)

/- THE SECOND FORM. 'bulk': how many values and letters a reading holds, each counted each time it is reached (what is shared counts as often as it is met; a slice's spare places count too). A statement '..UptoSaid' is the law's where the arguments, and the package variables that the reading takes, are together of bulk at most 1048576: NARROWER than '..Said'. Prove '..Said' where nothing that the law and all that it calls make is longer than what came in: it says more and counts as full. Else prove '..UptoSaid'. A law counts once. -/
mutual
def uptoBulk {H : Type} : DataW H → Nat
  | .lit (.string bytes) => bytes.length + 1
  | .lit _ => 1
  | .nil => 1
  | .ptr d => uptoBulk d + 1
  | .slice elems spare => uptoBulkAll elems + uptoBulkAll spare + 1
  | .agg parts => uptoBulkAll parts + 1
  | .iface _ d => uptoBulk d + 1
  | .map entries => uptoBulkEntries entries + 1
  | .held _ => 1
def uptoBulkAll {H : Type} : List (DataW H) → Nat
  | [] => 0
  | d :: r => uptoBulk d + uptoBulkAll r
def uptoBulkEntries {H : Type} : List (Lit × DataW H) → Nat
  | [] => 0
  | x :: r => uptoBulkEntry x + uptoBulkEntries r
def uptoBulkEntry {H : Type} : Lit × DataW H → Nat
  | (.string bytes, d) => bytes.length + uptoBulk d + 1
  | (_, d) => uptoBulk d + 1
 end
def uptoSmall : (H : Type) → List (DataW H) → Bool := fun _ ds => decide (uptoBulkAll ds ≤ 1048576)
def OpenSpec.upto (s : _root_.Go.ChangeSpec) : _root_.Go.OpenSpec := { _root_.Go.OpenSpec.ofChange s with cond := some uptoSmall }

/-- 'armplanlaw24.NeighborFinds', WHERE WHAT IT READS IS OF BULK AT MOST 1048576: true; the input reads as it did. -/
def neighborFindsUptoRow : OpenClaim := { program := "yteeeogdfnpdpcaagreat", sum := "d5565fd0221c416fc41af7e043e6d344c4c09f2442b3d1bd8d6ee257d12b78ef", func := "armplan/armplanlaw24.NeighborFinds", spec := "neighborFinds", unfollowed := true, recurses := true, apart := false, narrowed := true }
def NeighborFindsUptoSaid : Prop := neighborFindsUptoRow.holds Tryz.pinned (OpenSpec.upto neighborFindsSpec)

/-- 'armplanlaw24.NeighborRadius', WHERE WHAT IT READS IS OF BULK AT MOST 1048576: true; the input reads as it did. -/
def neighborRadiusUptoRow : OpenClaim := { program := "yteeeogdfnpdpcaagreat", sum := "d5565fd0221c416fc41af7e043e6d344c4c09f2442b3d1bd8d6ee257d12b78ef", func := "armplan/armplanlaw24.NeighborRadius", spec := "neighborRadius", unfollowed := true, recurses := true, apart := false, narrowed := true }
def NeighborRadiusUptoSaid : Prop := neighborRadiusUptoRow.holds Tryz.pinned (OpenSpec.upto neighborRadiusSpec)

/-- 'armplanlaw24.NeighborFree', WHERE WHAT IT READS IS OF BULK AT MOST 1048576: true; the input reads as it did. -/
def neighborFreeUptoRow : OpenClaim := { program := "yteeeogdfnpdpcaagreat", sum := "d5565fd0221c416fc41af7e043e6d344c4c09f2442b3d1bd8d6ee257d12b78ef", func := "armplan/armplanlaw24.NeighborFree", spec := "neighborFree", unfollowed := true, recurses := true, apart := false, narrowed := true }
def NeighborFreeUptoSaid : Prop := neighborFreeUptoRow.holds Tryz.pinned (OpenSpec.upto neighborFreeSpec)

end Rows
end Go.Proofs.YteeeogdfnpdpcaaGreat
