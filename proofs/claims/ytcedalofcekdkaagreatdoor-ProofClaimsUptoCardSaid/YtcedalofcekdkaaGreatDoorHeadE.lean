/- A piece of the run of head, by the kernel. -/
import Derived.Test.YtcedalofcekdkaaGreatDoorHeadSt
set_option linter.unusedSimpArgs false
set_option linter.unusedVariables false
namespace Go.Proofs.YtcedalofcekdkaaGreatDoor.Ex
theorem hd12 : goesOn (F.ex E1 1000000 (seqAt 12 headB) none hs12) hs13 = true := by kernel_rfl
theorem hd13 : goesOn (F.ex E1 1000000 (seqAt 13 headB) none hs13) hs14 = true := by kernel_rfl
theorem hd14 : goesOn (F.ex E1 1000000 (seqAt 14 headB) none hs14) hs15 = true := by kernel_rfl
theorem hd15 : goesOn (F.ex E1 1000000 (seqAt 15 headB) none hs15) hs16 = true := by kernel_rfl
theorem hd16 : goesOn (F.ex E1 1000000 (seqAt 16 headB) none hs16) hs17 = true := by kernel_rfl
theorem hd18 : returnsB (F.ex E1 1000000 (seqFrom 18 headB) none hs18) 0 true = true := by kernel_rfl
end Go.Proofs.YtcedalofcekdkaaGreatDoor.Ex
