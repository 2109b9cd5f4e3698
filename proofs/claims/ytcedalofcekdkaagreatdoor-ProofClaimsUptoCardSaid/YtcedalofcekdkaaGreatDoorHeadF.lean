/- A piece of the run of head, by the kernel. -/
import Derived.Test.YtcedalofcekdkaaGreatDoorHeadSt
set_option linter.unusedSimpArgs false
set_option linter.unusedVariables false
namespace Go.Proofs.YtcedalofcekdkaaGreatDoor.Ex
theorem hd17 : goesOn (F.ex E1 1000000 (seqAt 17 headB) none hs17) hs18 = true := by kernel_rfl
end Go.Proofs.YtcedalofcekdkaaGreatDoor.Ex
