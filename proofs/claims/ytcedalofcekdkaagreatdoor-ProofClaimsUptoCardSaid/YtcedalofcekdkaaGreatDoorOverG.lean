/- No body of the program starts a goroutine. -/
import Derived.Test.YtcedalofcekdkaaGreatDoorCards
import Derived.KernelRfl
set_option linter.unusedSimpArgs false
set_option linter.unusedVariables false
namespace Go.Proofs.YtcedalofcekdkaaGreatDoor.over
open Go
set_option maxRecDepth 100000

theorem goes_of {P : Program} (h : P.funcs.toList.any Func.goes = false) (f : FuncId) : P.goes f = false := by
  have hg : ∀ g : Nat, (P.funcs[g]?).any Func.goes = false := fun g => by
    cases hx : P.funcs[g]? with
    | none => rfl
    | some fn =>
      have hm : fn ∈ P.funcs.toList := List.mem_of_getElem? (by rw [Array.getElem?_toList]; exact hx)
      have := List.any_eq_false.1 h fn hm
      simpa using this
  unfold Program.goes
  rw [show P.funcs.any Func.goes = false by rw [← Array.any_toList]; exact h, Bool.and_false, Bool.or_false, List.any_eq_false]
  intro g _
  rw [hg g]
  simp

theorem goesBy_of {P : Program} {c : OpenClaim} (h : P.funcs.toList.any Func.goes = false) (hs : c.start = .entering) : false = c.goesBy P := by
  unfold OpenClaim.goesBy Program.goesAt Program.goesFrom
  rw [hs]
  cases P.funcNamed c.func with
  | none => rfl
  | some f =>
    show false = (P.goes f || false)
    rw [goes_of h f]; rfl

theorem noGoes : Tryz.prog.funcs.toList.any Func.goes = false := by kernel_rfl
end Go.Proofs.YtcedalofcekdkaaGreatDoor.over
