/-
  No cell of these rows narrows 'for every input' (looked for: loops, veiled, ifaces, maps, wideKeys, modest, calm, conditions, laid).
  DERIVED. THE GIVEN ROWS OF THIS SEAT. 8 by the template 'for every input the law returns true; each argument reads behind the call as it read before'; 0 by the template 'total and deterministic' (their statements: YthbfmjlcnfgnbaaGreatTotals.lean).
  GIVEN WITH THE SEED: the statements are not yours to turn. If you find one false, say at which input.
  Laid BY PROGRAM, IN A SANDBOX (cutbox-rows.mjs): the forced cells as the released guide's own fill.sh prints them over the translation e574cce59cfdf23f… (all of the seat's roots in one cut). By AI agents, Wed Nov 11 2026. No macro, syntax, notation, axiom, sorry.
-/
import Derived.Test.YthbfmjlcnfgnbaaGreatChecked
import GoSem.Claim
import GoSem.ClaimJoined
import GoSem.ClaimMapViews
import Derived.JoinedTies
import Derived.KernelRfl
namespace Go.Proofs.YthbfmjlcnfgnbaaGreat
/- THE CELL 'sum', in the pinned program and in every row, IS THE sha256 OF THE DUMP (.gsa) THAT YthbfmjlcnfgnbaaGreatProg.lean LOADS. Nothing in Lean hashes anything: it is a label: what it is worth is what the hold of that sum in a sandbox is worth. -/
noncomputable def Tryz.pinned : Pinned := { name := "ythbfmjlcnfgnbaagreat", sum := "e574cce59cfdf23f8a73a0e91943fbd4f31c4f37fd65c7ea34c647c94d3cf1d4", checked := Tryz.checked }
namespace Rows
def none {H : Type} : Left H := { results := [], args := [] }

/-- 'armplanlaw40.DynamicsEncloses': WHATEVER THE INPUT: true; the input reads as it did. -/
def dynamicsEnclosesSpec : ChangeSpec := { name := "dynamicsEncloses", fn := fun _ => fun
  | [d1, d2, d3, d4, d5, d6, d7, d8] => { results := [.lit (.bool true)], args := [d1, d2, d3, d4, d5, d6, d7, d8] }
  | _ => none }
def dynamicsEnclosesRow : OpenClaim := { program := "ythbfmjlcnfgnbaagreat", sum := "e574cce59cfdf23f8a73a0e91943fbd4f31c4f37fd65c7ea34c647c94d3cf1d4", func := "armplan/armplanlaw40.DynamicsEncloses", spec := "dynamicsEncloses", inPlace := ["math/bits.Add64"], unfollowed := true, recurses := true, apart := false }
def DynamicsEnclosesSaid : Prop := dynamicsEnclosesRow.holds Tryz.pinned (OpenSpec.ofChange dynamicsEnclosesSpec)

/-- ITS FALSE NEIGHBOUR: 'it returns false'. Refute it at one input. -/
def dynamicsEnclosesWrong : ChangeSpec := { name := "dynamicsEncloses", fn := fun _ => fun
  | [d1, d2, d3, d4, d5, d6, d7, d8] => { results := [.lit (.bool false)], args := [d1, d2, d3, d4, d5, d6, d7, d8] }
  | _ => none }
def DynamicsEnclosesWrongFalsely : Prop := dynamicsEnclosesRow.holds Tryz.pinned (OpenSpec.ofChange dynamicsEnclosesWrong)

/-- 'armplanlaw40.DynamicsMonotone': WHATEVER THE INPUT: true; the input reads as it did. -/
def dynamicsMonotoneSpec : ChangeSpec := { name := "dynamicsMonotone", fn := fun _ => fun
  | [d1, d2, d3, d4, d5, d6, d7, d8, d9] => { results := [.lit (.bool true)], args := [d1, d2, d3, d4, d5, d6, d7, d8, d9] }
  | _ => none }
def dynamicsMonotoneRow : OpenClaim := { program := "ythbfmjlcnfgnbaagreat", sum := "e574cce59cfdf23f8a73a0e91943fbd4f31c4f37fd65c7ea34c647c94d3cf1d4", func := "armplan/armplanlaw40.DynamicsMonotone", spec := "dynamicsMonotone", inPlace := ["math/bits.Add64"], unfollowed := true, recurses := true, apart := false }
def DynamicsMonotoneSaid : Prop := dynamicsMonotoneRow.holds Tryz.pinned (OpenSpec.ofChange dynamicsMonotoneSpec)

/-- ITS FALSE NEIGHBOUR: 'it returns false'. Refute it at one input. -/
def dynamicsMonotoneWrong : ChangeSpec := { name := "dynamicsMonotone", fn := fun _ => fun
  | [d1, d2, d3, d4, d5, d6, d7, d8, d9] => { results := [.lit (.bool false)], args := [d1, d2, d3, d4, d5, d6, d7, d8, d9] }
  | _ => none }
def DynamicsMonotoneWrongFalsely : Prop := dynamicsMonotoneRow.holds Tryz.pinned (OpenSpec.ofChange dynamicsMonotoneWrong)

/-- 'armplanlaw40.DynamicsWeightless': WHATEVER THE INPUT: true; the input reads as it did. -/
def dynamicsWeightlessSpec : ChangeSpec := { name := "dynamicsWeightless", fn := fun _ => fun
  | [d1, d2, d3, d4, d5, d6] => { results := [.lit (.bool true)], args := [d1, d2, d3, d4, d5, d6] }
  | _ => none }
def dynamicsWeightlessRow : OpenClaim := { program := "ythbfmjlcnfgnbaagreat", sum := "e574cce59cfdf23f8a73a0e91943fbd4f31c4f37fd65c7ea34c647c94d3cf1d4", func := "armplan/armplanlaw40.DynamicsWeightless", spec := "dynamicsWeightless", inPlace := ["math/bits.Add64"], unfollowed := true, recurses := true, apart := false }
def DynamicsWeightlessSaid : Prop := dynamicsWeightlessRow.holds Tryz.pinned (OpenSpec.ofChange dynamicsWeightlessSpec)

/-- ITS FALSE NEIGHBOUR: 'it returns false'. Refute it at one input. -/
def dynamicsWeightlessWrong : ChangeSpec := { name := "dynamicsWeightless", fn := fun _ => fun
  | [d1, d2, d3, d4, d5, d6] => { results := [.lit (.bool false)], args := [d1, d2, d3, d4, d5, d6] }
  | _ => none }
def DynamicsWeightlessWrongFalsely : Prop := dynamicsWeightlessRow.holds Tryz.pinned (OpenSpec.ofChange dynamicsWeightlessWrong)

/-- 'armplanlaw40.DynamicsAdds': WHATEVER THE INPUT: true; the input reads as it did. -/
def dynamicsAddsSpec : ChangeSpec := { name := "dynamicsAdds", fn := fun _ => fun
  | [d1, d2, d3, d4, d5, d6, d7] => { results := [.lit (.bool true)], args := [d1, d2, d3, d4, d5, d6, d7] }
  | _ => none }
def dynamicsAddsRow : OpenClaim := { program := "ythbfmjlcnfgnbaagreat", sum := "e574cce59cfdf23f8a73a0e91943fbd4f31c4f37fd65c7ea34c647c94d3cf1d4", func := "armplan/armplanlaw40.DynamicsAdds", spec := "dynamicsAdds", inPlace := ["math/bits.Add64"], unfollowed := true, recurses := true, apart := false }
def DynamicsAddsSaid : Prop := dynamicsAddsRow.holds Tryz.pinned (OpenSpec.ofChange dynamicsAddsSpec)

/-- ITS FALSE NEIGHBOUR: 'it returns false'. Refute it at one input. -/
def dynamicsAddsWrong : ChangeSpec := { name := "dynamicsAdds", fn := fun _ => fun
  | [d1, d2, d3, d4, d5, d6, d7] => { results := [.lit (.bool false)], args := [d1, d2, d3, d4, d5, d6, d7] }
  | _ => none }
def DynamicsAddsWrongFalsely : Prop := dynamicsAddsRow.holds Tryz.pinned (OpenSpec.ofChange dynamicsAddsWrong)

/-- 'armplanlaw40.DynamicsSliders': WHATEVER THE INPUT: true; the input reads as it did. -/
def dynamicsSlidersSpec : ChangeSpec := { name := "dynamicsSliders", fn := fun _ => fun
  | [d1, d2, d3, d4] => { results := [.lit (.bool true)], args := [d1, d2, d3, d4] }
  | _ => none }
def dynamicsSlidersRow : OpenClaim := { program := "ythbfmjlcnfgnbaagreat", sum := "e574cce59cfdf23f8a73a0e91943fbd4f31c4f37fd65c7ea34c647c94d3cf1d4", func := "armplan/armplanlaw40.DynamicsSliders", spec := "dynamicsSliders", inPlace := ["math/bits.Add64"], unfollowed := true, recurses := true, apart := false }
def DynamicsSlidersSaid : Prop := dynamicsSlidersRow.holds Tryz.pinned (OpenSpec.ofChange dynamicsSlidersSpec)

/-- ITS FALSE NEIGHBOUR: 'it returns false'. Refute it at one input. -/
def dynamicsSlidersWrong : ChangeSpec := { name := "dynamicsSliders", fn := fun _ => fun
  | [d1, d2, d3, d4] => { results := [.lit (.bool false)], args := [d1, d2, d3, d4] }
  | _ => none }
def DynamicsSlidersWrongFalsely : Prop := dynamicsSlidersRow.holds Tryz.pinned (OpenSpec.ofChange dynamicsSlidersWrong)

/-- 'armplanlaw40.DynamicsRanges': WHATEVER THE INPUT: true; the input reads as it did. -/
def dynamicsRangesSpec : ChangeSpec := { name := "dynamicsRanges", fn := fun _ => fun
  | [d1, d2, d3, d4, d5, d6, d7, d8] => { results := [.lit (.bool true)], args := [d1, d2, d3, d4, d5, d6, d7, d8] }
  | _ => none }
def dynamicsRangesRow : OpenClaim := { program := "ythbfmjlcnfgnbaagreat", sum := "e574cce59cfdf23f8a73a0e91943fbd4f31c4f37fd65c7ea34c647c94d3cf1d4", func := "armplan/armplanlaw40.DynamicsRanges", spec := "dynamicsRanges", inPlace := ["math/bits.Add64"], unfollowed := true, recurses := true, named := ["math/bits.divideError", "math/bits.overflowError"], apart := false }
def DynamicsRangesSaid : Prop := dynamicsRangesRow.holds Tryz.pinned (OpenSpec.ofChange dynamicsRangesSpec)

/-- ITS FALSE NEIGHBOUR: 'it returns false'. Refute it at one input. -/
def dynamicsRangesWrong : ChangeSpec := { name := "dynamicsRanges", fn := fun _ => fun
  | [d1, d2, d3, d4, d5, d6, d7, d8] => { results := [.lit (.bool false)], args := [d1, d2, d3, d4, d5, d6, d7, d8] }
  | _ => none }
def DynamicsRangesWrongFalsely : Prop := dynamicsRangesRow.holds Tryz.pinned (OpenSpec.ofChange dynamicsRangesWrong)

/-- 'armplanlaw40.DynamicsRates': WHATEVER THE INPUT: true; the input reads as it did. -/
def dynamicsRatesSpec : ChangeSpec := { name := "dynamicsRates", fn := fun _ => fun
  | [d1, d2, d3, d4, d5, d6] => { results := [.lit (.bool true)], args := [d1, d2, d3, d4, d5, d6] }
  | _ => none }
def dynamicsRatesRow : OpenClaim := { program := "ythbfmjlcnfgnbaagreat", sum := "e574cce59cfdf23f8a73a0e91943fbd4f31c4f37fd65c7ea34c647c94d3cf1d4", func := "armplan/armplanlaw40.DynamicsRates", spec := "dynamicsRates", inPlace := ["math/bits.Add64"], unfollowed := true, recurses := true, named := ["math/bits.divideError", "math/bits.overflowError"], apart := false }
def DynamicsRatesSaid : Prop := dynamicsRatesRow.holds Tryz.pinned (OpenSpec.ofChange dynamicsRatesSpec)

/-- ITS FALSE NEIGHBOUR: 'it returns false'. Refute it at one input. -/
def dynamicsRatesWrong : ChangeSpec := { name := "dynamicsRates", fn := fun _ => fun
  | [d1, d2, d3, d4, d5, d6] => { results := [.lit (.bool false)], args := [d1, d2, d3, d4, d5, d6] }
  | _ => none }
def DynamicsRatesWrongFalsely : Prop := dynamicsRatesRow.holds Tryz.pinned (OpenSpec.ofChange dynamicsRatesWrong)

/-- 'armplanlaw40.DynamicsEnergy': WHATEVER THE INPUT: true; the input reads as it did. -/
def dynamicsEnergySpec : ChangeSpec := { name := "dynamicsEnergy", fn := fun _ => fun
  | [d1, d2, d3, d4, d5] => { results := [.lit (.bool true)], args := [d1, d2, d3, d4, d5] }
  | _ => none }
def dynamicsEnergyRow : OpenClaim := { program := "ythbfmjlcnfgnbaagreat", sum := "e574cce59cfdf23f8a73a0e91943fbd4f31c4f37fd65c7ea34c647c94d3cf1d4", func := "armplan/armplanlaw40.DynamicsEnergy", spec := "dynamicsEnergy", inPlace := ["math/bits.Add64"], unfollowed := true, recurses := true, named := ["math/bits.divideError", "math/bits.overflowError"], apart := false }
def DynamicsEnergySaid : Prop := dynamicsEnergyRow.holds Tryz.pinned (OpenSpec.ofChange dynamicsEnergySpec)

/-- ITS FALSE NEIGHBOUR: 'it returns false'. Refute it at one input. -/
def dynamicsEnergyWrong : ChangeSpec := { name := "dynamicsEnergy", fn := fun _ => fun
  | [d1, d2, d3, d4, d5] => { results := [.lit (.bool false)], args := [d1, d2, d3, d4, d5] }
  | _ => none }
def DynamicsEnergyWrongFalsely : Prop := dynamicsEnergyRow.holds Tryz.pinned (OpenSpec.ofChange dynamicsEnergyWrong)

/- THE SECOND FORM. 'bulk': how many values and letters a reading holds, each counted each time it is reached (what is shared counts as often as it is met; a slice's spare places count too). A statement '..UptoSaid' is the law's where the arguments, and the package variables that the reading takes, are together of bulk at most 1048576: NARROWER than '..Said'. Prove '..Said' where nothing that the law and all that it calls make is longer than what came in: it says more and counts as full. Else prove '..UptoSaid'. A law counts once. -/
mutual
def uptoBulk {H : Type} : DataW H → Nat
  | .lit (.string bytes) => bytes.length + 1
  | .lit _ => 1
  | .nil => 1
  | .ptr d => uptoBulk d + 1
  | .slice elems spare => uptoBulkAll elems + uptoBulkAll spare + 1
  | .agg parts => uptoBulkAll parts + 1
  | .iface _ d => uptoBulk d + 1
  | .map entries => uptoBulkEntries entries + 1
  | .held _ => 1
def uptoBulkAll {H : Type} : List (DataW H) → Nat
  | [] => 0
  | d :: r => uptoBulk d + uptoBulkAll r
def uptoBulkEntries {H : Type} : List (Lit × DataW H) → Nat
  | [] => 0
  | x :: r => uptoBulkEntry x + uptoBulkEntries r
def uptoBulkEntry {H : Type} : Lit × DataW H → Nat
  | (.string bytes, d) => bytes.length + uptoBulk d + 1
  | (_, d) => uptoBulk d + 1
 end
def uptoSmall : (H : Type) → List (DataW H) → Bool := fun _ ds => decide (uptoBulkAll ds ≤ 1048576)
def OpenSpec.upto (s : _root_.Go.ChangeSpec) : _root_.Go.OpenSpec := { _root_.Go.OpenSpec.ofChange s with cond := some uptoSmall }

/-- 'armplanlaw40.DynamicsEncloses', WHERE WHAT IT READS IS OF BULK AT MOST 1048576: true; the input reads as it did. -/
def dynamicsEnclosesUptoRow : OpenClaim := { program := "ythbfmjlcnfgnbaagreat", sum := "e574cce59cfdf23f8a73a0e91943fbd4f31c4f37fd65c7ea34c647c94d3cf1d4", func := "armplan/armplanlaw40.DynamicsEncloses", spec := "dynamicsEncloses", inPlace := ["math/bits.Add64"], unfollowed := true, recurses := true, apart := false, narrowed := true }
def DynamicsEnclosesUptoSaid : Prop := dynamicsEnclosesUptoRow.holds Tryz.pinned (OpenSpec.upto dynamicsEnclosesSpec)

/-- 'armplanlaw40.DynamicsMonotone', WHERE WHAT IT READS IS OF BULK AT MOST 1048576: true; the input reads as it did. -/
def dynamicsMonotoneUptoRow : OpenClaim := { program := "ythbfmjlcnfgnbaagreat", sum := "e574cce59cfdf23f8a73a0e91943fbd4f31c4f37fd65c7ea34c647c94d3cf1d4", func := "armplan/armplanlaw40.DynamicsMonotone", spec := "dynamicsMonotone", inPlace := ["math/bits.Add64"], unfollowed := true, recurses := true, apart := false, narrowed := true }
def DynamicsMonotoneUptoSaid : Prop := dynamicsMonotoneUptoRow.holds Tryz.pinned (OpenSpec.upto dynamicsMonotoneSpec)

/-- 'armplanlaw40.DynamicsWeightless', WHERE WHAT IT READS IS OF BULK AT MOST 1048576: true; the input reads as it did. -/
def dynamicsWeightlessUptoRow : OpenClaim := { program := "ythbfmjlcnfgnbaagreat", sum := "e574cce59cfdf23f8a73a0e91943fbd4f31c4f37fd65c7ea34c647c94d3cf1d4", func := "armplan/armplanlaw40.DynamicsWeightless", spec := "dynamicsWeightless", inPlace := ["math/bits.Add64"], unfollowed := true, recurses := true, apart := false, narrowed := true }
def DynamicsWeightlessUptoSaid : Prop := dynamicsWeightlessUptoRow.holds Tryz.pinned (OpenSpec.upto dynamicsWeightlessSpec)

/-- 'armplanlaw40.DynamicsAdds', WHERE WHAT IT READS IS OF BULK AT MOST 1048576: true; the input reads as it did. -/
def dynamicsAddsUptoRow : OpenClaim := { program := "ythbfmjlcnfgnbaagreat", sum := "e574cce59cfdf23f8a73a0e91943fbd4f31c4f37fd65c7ea34c647c94d3cf1d4", func := "armplan/armplanlaw40.DynamicsAdds", spec := "dynamicsAdds", inPlace := ["math/bits.Add64"], unfollowed := true, recurses := true, apart := false, narrowed := true }
def DynamicsAddsUptoSaid : Prop := dynamicsAddsUptoRow.holds Tryz.pinned (OpenSpec.upto dynamicsAddsSpec)

/-- 'armplanlaw40.DynamicsSliders', WHERE WHAT IT READS IS OF BULK AT MOST 1048576: true; the input reads as it did. -/
def dynamicsSlidersUptoRow : OpenClaim := { program := "ythbfmjlcnfgnbaagreat", sum := "e574cce59cfdf23f8a73a0e91943fbd4f31c4f37fd65c7ea34c647c94d3cf1d4", func := "armplan/armplanlaw40.DynamicsSliders", spec := "dynamicsSliders", inPlace := ["math/bits.Add64"], unfollowed := true, recurses := true, apart := false, narrowed := true }
def DynamicsSlidersUptoSaid : Prop := dynamicsSlidersUptoRow.holds Tryz.pinned (OpenSpec.upto dynamicsSlidersSpec)

/-- 'armplanlaw40.DynamicsRanges', WHERE WHAT IT READS IS OF BULK AT MOST 1048576: true; the input reads as it did. -/
def dynamicsRangesUptoRow : OpenClaim := { program := "ythbfmjlcnfgnbaagreat", sum := "e574cce59cfdf23f8a73a0e91943fbd4f31c4f37fd65c7ea34c647c94d3cf1d4", func := "armplan/armplanlaw40.DynamicsRanges", spec := "dynamicsRanges", inPlace := ["math/bits.Add64"], unfollowed := true, recurses := true, named := ["math/bits.divideError", "math/bits.overflowError"], apart := false, narrowed := true }
def DynamicsRangesUptoSaid : Prop := dynamicsRangesUptoRow.holds Tryz.pinned (OpenSpec.upto dynamicsRangesSpec)

/-- 'armplanlaw40.DynamicsRates', WHERE WHAT IT READS IS OF BULK AT MOST 1048576: true; the input reads as it did. -/
def dynamicsRatesUptoRow : OpenClaim := { program := "ythbfmjlcnfgnbaagreat", sum := "e574cce59cfdf23f8a73a0e91943fbd4f31c4f37fd65c7ea34c647c94d3cf1d4", func := "armplan/armplanlaw40.DynamicsRates", spec := "dynamicsRates", inPlace := ["math/bits.Add64"], unfollowed := true, recurses := true, named := ["math/bits.divideError", "math/bits.overflowError"], apart := false, narrowed := true }
def DynamicsRatesUptoSaid : Prop := dynamicsRatesUptoRow.holds Tryz.pinned (OpenSpec.upto dynamicsRatesSpec)

/-- 'armplanlaw40.DynamicsEnergy', WHERE WHAT IT READS IS OF BULK AT MOST 1048576: true; the input reads as it did. -/
def dynamicsEnergyUptoRow : OpenClaim := { program := "ythbfmjlcnfgnbaagreat", sum := "e574cce59cfdf23f8a73a0e91943fbd4f31c4f37fd65c7ea34c647c94d3cf1d4", func := "armplan/armplanlaw40.DynamicsEnergy", spec := "dynamicsEnergy", inPlace := ["math/bits.Add64"], unfollowed := true, recurses := true, named := ["math/bits.divideError", "math/bits.overflowError"], apart := false, narrowed := true }
def DynamicsEnergyUptoSaid : Prop := dynamicsEnergyUptoRow.holds Tryz.pinned (OpenSpec.upto dynamicsEnergySpec)

end Rows
end Go.Proofs.YthbfmjlcnfgnbaaGreat
