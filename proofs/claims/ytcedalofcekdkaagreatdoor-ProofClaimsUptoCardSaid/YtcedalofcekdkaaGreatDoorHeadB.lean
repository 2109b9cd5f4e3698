/- A piece of the run of head, by the kernel. -/
import Derived.Test.YtcedalofcekdkaaGreatDoorHeadSt
set_option linter.unusedSimpArgs false
set_option linter.unusedVariables false
namespace Go.Proofs.YtcedalofcekdkaaGreatDoor.Ex
theorem hd8 : goesOn (F.ex E1 1000000 (seqAt 8 headB) none hs8) hs9 = true := by kernel_rfl
end Go.Proofs.YtcedalofcekdkaaGreatDoor.Ex
