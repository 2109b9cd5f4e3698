/- The row of ProofClaims holds. -/
import Derived.Test.YtcedalofcekdkaaGreatDoorClaimRow
import Derived.Test.YtcedalofcekdkaaGreatDoorOver6
import Derived.JoinedCond
import Derived.Stop.Joined
set_option linter.unusedSimpArgs false
set_option linter.unusedVariables false
namespace Go.Proofs.YtcedalofcekdkaaGreatDoor.proofClaims
open Go

theorem over : Rows.proofClaimsUptoRow.holds Tryz.pinned (Rows.OpenSpec.upto Rows.proofClaimsSpec) :=
  OpenClaim.holds_of_cond 6 Tryz.f6 rfl rfl rfl rfl rfl rfl rfl ⟨rfl, rfl, rfl, rfl, rfl⟩ rfl rfl rfl rfl rfl isNamed Tryz.func6 facts inst wrap
    (fun os started H enc _ F => by rw [OpenClaim.pre_eq_preRow]; exact lifted os started H enc F)

end Go.Proofs.YtcedalofcekdkaaGreatDoor.proofClaims
