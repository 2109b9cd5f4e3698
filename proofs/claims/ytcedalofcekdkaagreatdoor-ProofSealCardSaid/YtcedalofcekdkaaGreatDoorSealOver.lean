/- The row of ProofSeal holds. -/
import Derived.Test.YtcedalofcekdkaaGreatDoorSealRow
import Derived.Test.YtcedalofcekdkaaGreatDoorOver3
set_option linter.unusedSimpArgs false
set_option linter.unusedVariables false
namespace Go.Proofs.YtcedalofcekdkaaGreatDoor.proofSeal
open Go

theorem over : Rows.proofSealRow.holds Tryz.pinned (OpenSpec.ofChange Rows.proofSealSpec) :=
  OpenClaim.holds_of_wide 3 Tryz.f3 rfl rfl rfl rfl rfl rfl rfl ⟨rfl, rfl, rfl, rfl, rfl⟩ rfl rfl rfl rfl rfl isNamed Tryz.func3 facts inst wrap
    (fun os started H enc _ => lifted os started H enc)

end Go.Proofs.YtcedalofcekdkaaGreatDoor.proofSeal
