/- A piece of the run of head, by the kernel. -/
import Derived.Test.YtcedalofcekdkaaGreatDoorHeadSt
set_option linter.unusedSimpArgs false
set_option linter.unusedVariables false
namespace Go.Proofs.YtcedalofcekdkaaGreatDoor.Ex
theorem hd9 : goesOn (F.ex E1 1000000 (seqAt 9 headB) none hs9) hs10 = true := by kernel_rfl
end Go.Proofs.YtcedalofcekdkaaGreatDoor.Ex
