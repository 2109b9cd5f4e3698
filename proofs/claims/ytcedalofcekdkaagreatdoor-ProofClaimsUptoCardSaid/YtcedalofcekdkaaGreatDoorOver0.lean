/- Closed facts of the program that every row asks. -/
import Derived.Test.YtcedalofcekdkaaGreatDoorRows
import Derived.JoinedOf
import Derived.KernelRfl
set_option linter.unusedSimpArgs false
set_option linter.unusedVariables false
namespace Go.Proofs.YtcedalofcekdkaaGreatDoor.over
set_option maxRecDepth 100000
theorem laidOut : laidOutB Tryz.prog = true := by kernel_rfl
theorem rowed : mapsRowed Tryz.prog = true := by kernel_rfl
theorem stops0 : (Tryz.prog.stops == []) = true := by kernel_rfl
theorem knobs0 : (Tryz.prog.stopKnobs == []) = true := by kernel_rfl
theorem keys : (Rows.proofSealRow.plainKeys == Tryz.prog.plainKeys) = true := by kernel_rfl
theorem heard : Tryz.prog.stopsHeard = true := by kernel_rfl
theorem enters : Tryz.prog.mayEnter = true := by kernel_rfl
theorem lifts : (Rows.proofSealRow.lifted == Tryz.prog.liftsFinal) = true := by kernel_rfl
theorem makes : (Tryz.prog.make == some Rows.proofSealRow.make) = true := by kernel_rfl
end Go.Proofs.YtcedalofcekdkaaGreatDoor.over
