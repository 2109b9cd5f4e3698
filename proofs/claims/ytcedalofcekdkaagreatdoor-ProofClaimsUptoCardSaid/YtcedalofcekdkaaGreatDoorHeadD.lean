/- A piece of the run of head, by the kernel. -/
import Derived.Test.YtcedalofcekdkaaGreatDoorHeadSt
set_option linter.unusedSimpArgs false
set_option linter.unusedVariables false
namespace Go.Proofs.YtcedalofcekdkaaGreatDoor.Ex
theorem hd10 : goesOn (F.ex E1 1000000 (seqAt 10 headB) none hs10) hs11 = true := by kernel_rfl
theorem hd11 : goesOn (F.ex E1 1000000 (seqAt 11 headB) none hs11) hs12 = true := by kernel_rfl
end Go.Proofs.YtcedalofcekdkaaGreatDoor.Ex
