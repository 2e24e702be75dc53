/-
  No cell of these rows narrows 'for every input' (looked for: loops, veiled, ifaces, maps, wideKeys, modest, calm, conditions, laid).
  DERIVED. THE GIVEN ROWS OF THIS SEAT. 4 by the template 'for every input the law returns true; each argument reads behind the call as it read before'; 0 by the template 'total and deterministic' (their statements: YteeeogdfnpdpcaaTotals.lean).
  GIVEN WITH THE SEED: the statements are not yours to turn. If you find one false, say at which input.
  Laid BY PROGRAM, IN A SANDBOX (cutbox-rows.mjs): the forced cells as the released guide's own fill.sh prints them over the translation b2a6bd02a3e90c7a… (all of the seat's roots in one cut). By AI agents, Wed Nov 11 2026. No macro, syntax, notation, axiom, sorry.
-/
import Derived.Test.YteeeogdfnpdpcaaChecked
import GoSem.Claim
import GoSem.ClaimJoined
import GoSem.ClaimMapViews
import Derived.JoinedTies
import Derived.KernelRfl
namespace Go.Proofs.Yteeeogdfnpdpcaa
/- THE CELL 'sum', in the pinned program and in every row, IS THE sha256 OF THE DUMP (.gsa) THAT YteeeogdfnpdpcaaProg.lean LOADS. Nothing in Lean hashes anything: it is a label: what it is worth is what the hold of that sum in a sandbox is worth. -/
noncomputable def Try.pinned : Pinned := { name := "yteeeogdfnpdpcaa", sum := "b2a6bd02a3e90c7a655a13a789d43153903ac20049af94d3cee722db4a3e1872", checked := Try.checked }
namespace Rows
def none {H : Type} : Left H := { results := [], args := [] }

/-- 'armplanlaw24.NeighborBuilds': WHATEVER THE INPUT: true; the input reads as it did. -/
def neighborBuildsSpec : ChangeSpec := { name := "neighborBuilds", fn := fun _ => fun
  | [d1, d2, d3, d4, d5] => { results := [.lit (.bool true)], args := [d1, d2, d3, d4, d5] }
  | _ => none }
def neighborBuildsRow : OpenClaim := { program := "yteeeogdfnpdpcaa", sum := "b2a6bd02a3e90c7a655a13a789d43153903ac20049af94d3cee722db4a3e1872", func := "armplan/armplanlaw24.NeighborBuilds", spec := "neighborBuilds", unfollowed := true, recurses := true, apart := false }
def NeighborBuildsSaid : Prop := neighborBuildsRow.holds Try.pinned (OpenSpec.ofChange neighborBuildsSpec)

/-- ITS FALSE NEIGHBOUR: 'it returns false'. Refute it at one input. -/
def neighborBuildsWrong : ChangeSpec := { name := "neighborBuilds", fn := fun _ => fun
  | [d1, d2, d3, d4, d5] => { results := [.lit (.bool false)], args := [d1, d2, d3, d4, d5] }
  | _ => none }
def NeighborBuildsWrongFalsely : Prop := neighborBuildsRow.holds Try.pinned (OpenSpec.ofChange neighborBuildsWrong)

/-- 'armplanlaw24.NeighborTrees': WHATEVER THE INPUT: true; the input reads as it did. -/
def neighborTreesSpec : ChangeSpec := { name := "neighborTrees", fn := fun _ => fun
  | [d1, d2, d3, d4, d5, d6] => { results := [.lit (.bool true)], args := [d1, d2, d3, d4, d5, d6] }
  | _ => none }
def neighborTreesRow : OpenClaim := { program := "yteeeogdfnpdpcaa", sum := "b2a6bd02a3e90c7a655a13a789d43153903ac20049af94d3cee722db4a3e1872", func := "armplan/armplanlaw24.NeighborTrees", spec := "neighborTrees", unfollowed := true, recurses := true, apart := false }
def NeighborTreesSaid : Prop := neighborTreesRow.holds Try.pinned (OpenSpec.ofChange neighborTreesSpec)

/-- ITS FALSE NEIGHBOUR: 'it returns false'. Refute it at one input. -/
def neighborTreesWrong : ChangeSpec := { name := "neighborTrees", fn := fun _ => fun
  | [d1, d2, d3, d4, d5, d6] => { results := [.lit (.bool false)], args := [d1, d2, d3, d4, d5, d6] }
  | _ => none }
def NeighborTreesWrongFalsely : Prop := neighborTreesRow.holds Try.pinned (OpenSpec.ofChange neighborTreesWrong)

/-- 'armplanlaw24.NeighborNearer': WHATEVER THE INPUT: true; the input reads as it did. -/
def neighborNearerSpec : ChangeSpec := { name := "neighborNearer", fn := fun _ => fun
  | [d1, d2, d3, d4] => { results := [.lit (.bool true)], args := [d1, d2, d3, d4] }
  | _ => none }
def neighborNearerRow : OpenClaim := { program := "yteeeogdfnpdpcaa", sum := "b2a6bd02a3e90c7a655a13a789d43153903ac20049af94d3cee722db4a3e1872", func := "armplan/armplanlaw24.NeighborNearer", spec := "neighborNearer", unfollowed := true, recurses := true, apart := false }
def NeighborNearerSaid : Prop := neighborNearerRow.holds Try.pinned (OpenSpec.ofChange neighborNearerSpec)

/-- ITS FALSE NEIGHBOUR: 'it returns false'. Refute it at one input. -/
def neighborNearerWrong : ChangeSpec := { name := "neighborNearer", fn := fun _ => fun
  | [d1, d2, d3, d4] => { results := [.lit (.bool false)], args := [d1, d2, d3, d4] }
  | _ => none }
def NeighborNearerWrongFalsely : Prop := neighborNearerRow.holds Try.pinned (OpenSpec.ofChange neighborNearerWrong)

/-- 'armplanlaw24.NeighborOrder': WHATEVER THE INPUT: true; the input reads as it did. -/
def neighborOrderSpec : ChangeSpec := { name := "neighborOrder", fn := fun _ => fun
  | [d1, d2, d3, d4, d5] => { results := [.lit (.bool true)], args := [d1, d2, d3, d4, d5] }
  | _ => none }
def neighborOrderRow : OpenClaim := { program := "yteeeogdfnpdpcaa", sum := "b2a6bd02a3e90c7a655a13a789d43153903ac20049af94d3cee722db4a3e1872", func := "armplan/armplanlaw24.NeighborOrder", spec := "neighborOrder", unfollowed := true, recurses := true, apart := false }
def NeighborOrderSaid : Prop := neighborOrderRow.holds Try.pinned (OpenSpec.ofChange neighborOrderSpec)

/-- ITS FALSE NEIGHBOUR: 'it returns false'. Refute it at one input. -/
def neighborOrderWrong : ChangeSpec := { name := "neighborOrder", fn := fun _ => fun
  | [d1, d2, d3, d4, d5] => { results := [.lit (.bool false)], args := [d1, d2, d3, d4, d5] }
  | _ => none }
def NeighborOrderWrongFalsely : Prop := neighborOrderRow.holds Try.pinned (OpenSpec.ofChange neighborOrderWrong)

/- THE SECOND FORM. 'bulk': how many values and letters a reading holds, each counted each time it is reached (what is shared counts as often as it is met; a slice's spare places count too). A statement '..UptoSaid' is the law's where the arguments, and the package variables that the reading takes, are together of bulk at most 1048576: NARROWER than '..Said'. Prove '..Said' where nothing that the law and all that it calls make is longer than what came in: it says more and counts as full. Else prove '..UptoSaid'. A law counts once. -/
mutual
def uptoBulk {H : Type} : DataW H → Nat
  | .lit (.string bytes) => bytes.length + 1
  | .lit _ => 1
  | .nil => 1
  | .ptr d => uptoBulk d + 1
  | .slice elems spare => uptoBulkAll elems + uptoBulkAll spare + 1
  | .agg parts => uptoBulkAll parts + 1
  | .iface _ d => uptoBulk d + 1
  | .map entries => uptoBulkEntries entries + 1
  | .held _ => 1
def uptoBulkAll {H : Type} : List (DataW H) → Nat
  | [] => 0
  | d :: r => uptoBulk d + uptoBulkAll r
def uptoBulkEntries {H : Type} : List (Lit × DataW H) → Nat
  | [] => 0
  | x :: r => uptoBulkEntry x + uptoBulkEntries r
def uptoBulkEntry {H : Type} : Lit × DataW H → Nat
  | (.string bytes, d) => bytes.length + uptoBulk d + 1
  | (_, d) => uptoBulk d + 1
 end
def uptoSmall : (H : Type) → List (DataW H) → Bool := fun _ ds => decide (uptoBulkAll ds ≤ 1048576)
def OpenSpec.upto (s : _root_.Go.ChangeSpec) : _root_.Go.OpenSpec := { _root_.Go.OpenSpec.ofChange s with cond := some uptoSmall }

/-- 'armplanlaw24.NeighborBuilds', WHERE WHAT IT READS IS OF BULK AT MOST 1048576: true; the input reads as it did. -/
def neighborBuildsUptoRow : OpenClaim := { program := "yteeeogdfnpdpcaa", sum := "b2a6bd02a3e90c7a655a13a789d43153903ac20049af94d3cee722db4a3e1872", func := "armplan/armplanlaw24.NeighborBuilds", spec := "neighborBuilds", unfollowed := true, recurses := true, apart := false, narrowed := true }
def NeighborBuildsUptoSaid : Prop := neighborBuildsUptoRow.holds Try.pinned (OpenSpec.upto neighborBuildsSpec)

/-- 'armplanlaw24.NeighborTrees', WHERE WHAT IT READS IS OF BULK AT MOST 1048576: true; the input reads as it did. -/
def neighborTreesUptoRow : OpenClaim := { program := "yteeeogdfnpdpcaa", sum := "b2a6bd02a3e90c7a655a13a789d43153903ac20049af94d3cee722db4a3e1872", func := "armplan/armplanlaw24.NeighborTrees", spec := "neighborTrees", unfollowed := true, recurses := true, apart := false, narrowed := true }
def NeighborTreesUptoSaid : Prop := neighborTreesUptoRow.holds Try.pinned (OpenSpec.upto neighborTreesSpec)

/-- 'armplanlaw24.NeighborNearer', WHERE WHAT IT READS IS OF BULK AT MOST 1048576: true; the input reads as it did. -/
def neighborNearerUptoRow : OpenClaim := { program := "yteeeogdfnpdpcaa", sum := "b2a6bd02a3e90c7a655a13a789d43153903ac20049af94d3cee722db4a3e1872", func := "armplan/armplanlaw24.NeighborNearer", spec := "neighborNearer", unfollowed := true, recurses := true, apart := false, narrowed := true }
def NeighborNearerUptoSaid : Prop := neighborNearerUptoRow.holds Try.pinned (OpenSpec.upto neighborNearerSpec)

/-- 'armplanlaw24.NeighborOrder', WHERE WHAT IT READS IS OF BULK AT MOST 1048576: true; the input reads as it did. -/
def neighborOrderUptoRow : OpenClaim := { program := "yteeeogdfnpdpcaa", sum := "b2a6bd02a3e90c7a655a13a789d43153903ac20049af94d3cee722db4a3e1872", func := "armplan/armplanlaw24.NeighborOrder", spec := "neighborOrder", unfollowed := true, recurses := true, apart := false, narrowed := true }
def NeighborOrderUptoSaid : Prop := neighborOrderUptoRow.holds Try.pinned (OpenSpec.upto neighborOrderSpec)

end Rows
end Go.Proofs.Yteeeogdfnpdpcaa
