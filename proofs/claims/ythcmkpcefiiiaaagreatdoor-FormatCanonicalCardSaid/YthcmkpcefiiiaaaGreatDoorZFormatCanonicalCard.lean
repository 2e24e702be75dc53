/-
  FormatCanonical: for every text, all lists of numbers and every number, the law returns true: a text that a reader takes is the text that the writer makes of what was read.
  No condition. The listed variables are tied to the program's text.
-/
import Derived.Test.YthcmkpcefiiiaaaGreatDoorZFormatCanonicalCard31
import Derived.Test.YthcmkpcefiiiaaaGreatDoorTie
import Derived.Test.YthcmkpcefiiiaaaGreatDoorCards
import Derived.SevenTiedAt
set_option linter.unusedVariables false
namespace Go.Proofs.YthcmkpcefiiiaaaGreatDoor.formatCanonical
open Go
/-- THE STATEMENT: the tied card. -/
theorem card : Rows.FormatCanonicalCardSaid :=
  Claim7.holds_tied_plain_at .later [] [.data, .data, .data, .data, .sentinel, .sentinel, .pinned] true (true, "d3c3808fec48e408e70f3394c713f30646eb63f6003c7888f099632f4eed2f1b") true
    proved (fun _ h => by cases h) (by kernel_rfl) (fun _ h => by cases h) formatCanonical_row_tie rfl ⟨rfl, rfl⟩ (by kernel_rfl) rfl
    (fun f fn hf hfn => by
      obtain rfl : f = 5 := Option.some.inj ((show Tryz.prog.funcNamed "armplan/armplanlaw43.FormatCanonical" = some 5 by kernel_rfl).symm.trans hf) |>.symm
      obtain rfl : fn = Tryz.f5 := (Option.some.inj (Tryz.func5.symm.trans hfn)).symm
      exact ⟨by kernel_rfl, fun j t ht => by
        rw [Tryz.params5] at ht
        have hm : t ∈ [9, 22, 22, 3, 3, 3, 3] := by simpa using Array.mem_of_getElem? ht
        have hall : ([9, 22, 22, 3, 3, 3, 3].all fun u => !Tryz.prog.wantsStandIn u) = true := by kernel_rfl
        exact (show Tryz.prog.wantsStandIn t = false by simpa using List.all_eq_true.1 hall t hm)⟩)
    (by kernel_rfl)
#print axioms card
end Go.Proofs.YthcmkpcefiiiaaaGreatDoor.formatCanonical
