/- The row of ProofTexts holds. -/
import Derived.Test.YtcedalofcekdkaaGreatDoorTextRow
import Derived.Test.YtcedalofcekdkaaGreatDoorOver4
set_option linter.unusedSimpArgs false
set_option linter.unusedVariables false
namespace Go.Proofs.YtcedalofcekdkaaGreatDoor.proofTexts
open Go

theorem over : Rows.proofTextsRow.holds Tryz.pinned (OpenSpec.ofChange Rows.proofTextsSpec) :=
  OpenClaim.holds_of_wide 4 Tryz.f4 rfl rfl rfl rfl rfl rfl rfl ⟨rfl, rfl, rfl, rfl, rfl⟩ rfl rfl rfl rfl rfl isNamed Tryz.func4 facts inst wrap
    (fun os started H enc _ => lifted os started H enc)

end Go.Proofs.YtcedalofcekdkaaGreatDoor.proofTexts
