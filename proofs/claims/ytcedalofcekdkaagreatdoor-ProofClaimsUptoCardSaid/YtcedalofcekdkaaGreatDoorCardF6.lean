/- Closed facts of the card of ProofClaims, in its second form. -/
import Derived.Test.YtcedalofcekdkaaGreatDoorCards
import Derived.KernelRfl
set_option linter.unusedSimpArgs false
set_option linter.unusedVariables false
namespace Go.Proofs.YtcedalofcekdkaaGreatDoor.proofClaims
open Go
set_option maxRecDepth 100000

theorem byText : Rows.proofClaimsUptoRow.wfByText (Rows.OpenSpec.upto Rows.proofClaimsSpec) = true := by kernel_rfl
theorem harness : Tryz.prog.mainIs = some (true, "4b4a5bd6ee01568f030fc7a58f3a01d07439e7cc3b123be10bb46bcec854269a".toList) := by kernel_rfl
theorem looks : true = Tryz.prog.looks [] := by kernel_rfl
theorem wants : (Tryz.f6.params.toList.all fun t => !Tryz.prog.wantsStandIn t) = true := by kernel_rfl

end Go.Proofs.YtcedalofcekdkaaGreatDoor.proofClaims
