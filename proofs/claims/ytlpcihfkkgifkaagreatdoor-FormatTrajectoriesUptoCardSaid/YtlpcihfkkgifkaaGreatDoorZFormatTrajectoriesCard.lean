/-
  FormatTrajectories: for every trajectory, every text, all lists of numbers and every three numbers, together of bulk at most 1048576, the law returns true: FormatTrajectory and ParseTrajectory return what the chapter specifies.
  Condition: the bulk (the statement's second form). The listed variables are tied to the program's text.
-/
import Derived.Test.YtlpcihfkkgifkaaGreatDoorZFormatTrajectoriesCard27
import Derived.Test.YtlpcihfkkgifkaaGreatDoorTie
import Derived.Test.YtlpcihfkkgifkaaGreatDoorCards
import Derived.SevenTiedAt
set_option linter.unusedVariables false
namespace Go.Proofs.YtlpcihfkkgifkaaGreatDoor.formatTrajectories
open Go
/-- THE STATEMENT: the tied card. -/
theorem card : Rows.FormatTrajectoriesUptoCardSaid :=
  Claim7.holds_tied_plain_at .later [] [.data, .data, .data, .data, .sentinel, .sentinel, .pinned] true (true, "650a856e1873099d93a5fb6def9233371191ab46e81391d610c5277b6446853d") true
    proved (fun _ h => by cases h) (by kernel_rfl) (fun _ h => by cases h) formatTrajectoriesUpto_row_tie rfl ⟨rfl, rfl⟩ (by kernel_rfl) rfl
    (fun f fn hf hfn => by
      obtain rfl : f = 4 := Option.some.inj ((show Tryz.prog.funcNamed "armplan/armplanlaw43.FormatTrajectories" = some 4 by kernel_rfl).symm.trans hf) |>.symm
      obtain rfl : fn = Tryz.f4 := (Option.some.inj (Tryz.func4.symm.trans hfn)).symm
      exact ⟨by kernel_rfl, fun j t ht => by
        rw [Tryz.params4] at ht
        have hm : t ∈ [41, 9, 26, 26, 3, 3, 3] := by simpa using Array.mem_of_getElem? ht
        have hall : ([41, 9, 26, 26, 3, 3, 3].all fun u => !Tryz.prog.wantsStandIn u) = true := by kernel_rfl
        exact (show Tryz.prog.wantsStandIn t = false by simpa using List.all_eq_true.1 hall t hm)⟩)
    (by kernel_rfl)
#print axioms card
end Go.Proofs.YtlpcihfkkgifkaaGreatDoor.formatTrajectories
