/-
  FormatReturns: for all lists of numbers, the law returns true: what is written is read back as the value it was.
  No condition. The listed variables are tied to the program's text.
-/
import Derived.Test.YthcmkpcefiiiaaaGreatDoorZFormatReturnsCard31
import Derived.Test.YthcmkpcefiiiaaaGreatDoorTie
import Derived.Test.YthcmkpcefiiiaaaGreatDoorCards
import Derived.SevenTiedAt
set_option linter.unusedVariables false
namespace Go.Proofs.YthcmkpcefiiiaaaGreatDoor.formatReturns
open Go
/-- THE STATEMENT: the tied card. -/
theorem card : Rows.FormatReturnsCardSaid :=
  Claim7.holds_tied_plain_at .later [] [.data, .data, .data, .data, .sentinel, .sentinel, .pinned] true (true, "d3c3808fec48e408e70f3394c713f30646eb63f6003c7888f099632f4eed2f1b") true
    proved (fun _ h => by cases h) (by kernel_rfl) (fun _ h => by cases h) formatReturns_row_tie rfl ⟨rfl, rfl⟩ (by kernel_rfl) rfl
    (fun f fn hf hfn => by
      obtain rfl : f = 4 := Option.some.inj ((show Tryz.prog.funcNamed "armplan/armplanlaw43.FormatReturns" = some 4 by kernel_rfl).symm.trans hf) |>.symm
      obtain rfl : fn = Tryz.f4 := (Option.some.inj (Tryz.func4.symm.trans hfn)).symm
      exact ⟨by kernel_rfl, fun j t ht => by
        rw [Tryz.params4] at ht
        have hm : t ∈ [22, 22] := by simpa using Array.mem_of_getElem? ht
        have hall : ([22, 22].all fun u => !Tryz.prog.wantsStandIn u) = true := by kernel_rfl
        exact (show Tryz.prog.wantsStandIn t = false by simpa using List.all_eq_true.1 hall t hm)⟩)
    (by kernel_rfl)
#print axioms card
end Go.Proofs.YthcmkpcefiiiaaaGreatDoor.formatReturns
