/- cmp.Compare at integers answers so. -/
import Derived.Test.YtcedalofcekdkaaGreatDoorProg
import Derived.WalkKit
set_option linter.unusedSimpArgs false
set_option linter.unusedVariables false
namespace Go.Proofs.YtcedalofcekdkaaGreatDoor
open Go.RowKit

theorem blt_no {a b : Nat} (h : ¬ a < b) : Nat.blt a b = false := by
  cases e : Nat.blt a b with
  | false => rfl
  | true => exact absurd (Nat.le_of_ble_eq_true e) h

theorem cmp_val (a b : Nat) : (bif Nat.blt a b then Int.negSucc 0 else bif Nat.blt b a then 1 else 0) = if a < b then (-1 : Int) else if b < a then 1 else 0 := by
  by_cases h : a < b
  · rw [if_pos h, show Nat.blt a b = true from Nat.ble_eq_true_of_le h]; rfl
  · rw [if_neg h, blt_no h]
    by_cases h2 : b < a
    · rw [if_pos h2, show Nat.blt b a = true from Nat.ble_eq_true_of_le h2]; rfl
    · rw [if_neg h2, blt_no h2]; rfl

theorem cmp_calls (a b : Nat) (w : World) :
    Calls Tryz.prog 135 #[.int .i64 a, .int .i64 b] w fun e w' => e = .returned (.int .i64 (bif Nat.blt a b then Int.negSucc 0 else bif Nat.blt b a then 1 else 0)) ∧ w' = w := by
  rw [cmp_val]
  go_enter Tryz.func135, Tryz.ntmps135
  go_wp2
  all_goals (go_ret)
  all_goals (refine ⟨?_, rfl⟩)
  all_goals (first | rfl | (rw [if_pos (by assumption)]; rfl) | (rw [if_neg (by assumption)]; rfl))
end Go.Proofs.YtcedalofcekdkaaGreatDoor
