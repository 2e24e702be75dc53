/-
  TrajectorySteps: for every input, the law returns true: Lead and Step return what the chapter specifies, for arbitrary arguments and for motions of a robot. No condition.
-/
import Derived.Test.YtgkihlkhklmgcaaGreatZTrajectorySteps20
import Derived.Test.YtgkihlkhklmgcaaGreatRows
set_option linter.unusedVariables false
namespace Go.Proofs.YtgkihlkhklmgcaaGreat.trajectorySteps
open Go.ChangeShapes Go.WideShapes Go.ChangeAt Go.RowKit
theorem over : Rows.trajectoryStepsRow.holds Tryz.pinned (OpenSpec.ofChange Rows.trajectoryStepsSpec) :=
  OpenClaim.holds_of_wide 3 Tryz.f3 rfl rfl rfl rfl rfl rfl rfl ⟨rfl, rfl, rfl, rfl, rfl⟩ rfl rfl rfl rfl rfl hfn Tryz.func3 closed
    hinst hwrap
    (fun os started H enc _ => lifted os started H enc)

/-- ████ THE STATEMENT ████ -/
theorem proved : Rows.TrajectoryStepsSaid :=
  over
#print axioms proved
end Go.Proofs.YtgkihlkhklmgcaaGreat.trajectorySteps
