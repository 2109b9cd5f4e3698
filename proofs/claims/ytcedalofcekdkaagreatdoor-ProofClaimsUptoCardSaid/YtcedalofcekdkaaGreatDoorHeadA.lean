/- A piece of the run of head, by the kernel. -/
import Derived.Test.YtcedalofcekdkaaGreatDoorHeadSt
set_option linter.unusedSimpArgs false
set_option linter.unusedVariables false
namespace Go.Proofs.YtcedalofcekdkaaGreatDoor.Ex
theorem hd0 : goesOn (F.ex E1 1000000 (seqAt 0 headB) none hs0) hs1 = true := by kernel_rfl
theorem hd1 : goesOn (F.ex E1 1000000 (seqAt 1 headB) none hs1) hs2 = true := by kernel_rfl
theorem hd2 : goesOn (F.ex E1 1000000 (seqAt 2 headB) none hs2) hs3 = true := by kernel_rfl
theorem hd3 : goesOn (F.ex E1 1000000 (seqAt 3 headB) none hs3) hs4 = true := by kernel_rfl
theorem hd4 : goesOn (F.ex E1 1000000 (seqAt 4 headB) none hs4) hs5 = true := by kernel_rfl
theorem hd5 : goesOn (F.ex E1 1000000 (seqAt 5 headB) none hs5) hs6 = true := by kernel_rfl
theorem hd6 : goesOn (F.ex E1 1000000 (seqAt 6 headB) none hs6) hs7 = true := by kernel_rfl
theorem hd7 : goesOn (F.ex E1 1000000 (seqAt 7 headB) none hs7) hs8 = true := by kernel_rfl
end Go.Proofs.YtcedalofcekdkaaGreatDoor.Ex
