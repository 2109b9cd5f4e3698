/- The row's tie. -/
import Derived.Test.YtcedalofcekdkaaGreatDoorRows
import Derived.LaidByTextLater
import Derived.SevenTiedAt
import Derived.LaidOnce
set_option linter.unusedSimpArgs false
set_option linter.unusedVariables false
namespace Go.Proofs.YtcedalofcekdkaaGreatDoor
open Go
set_option maxRecDepth 100000
abbrev laid8 : List (String × DataW Unit) := Rows.proofSealRow.laid.take 8
theorem tie_a : Tryz.prog.worded (varsWordLater true) = true := by kernel_rfl
theorem tie_b : Tryz.prog.worded (varsWordLater !true) = false := by kernel_rfl
theorem tie_c : Tryz.prog.worded rootWordLater = true := by kernel_rfl
theorem tie_d : laid8.map (fun x => Tryz.prog.kindOfLater x.1) = ([.data, .data, .data, .data, .sentinel, .sentinel, .listed, .data] : List LaidKind).map some := by kernel_rfl
theorem tie_e : (Tryz.prog.funcNamed "gosem.cut.vars").isSome = true := by kernel_rfl
theorem tie_f : varsNamedLaterB Tryz.prog (varsId Tryz.prog) laid8 = true := by kernel_rfl
theorem tie_g (os : Os) (tape : Tape) : doorLeaves Tryz.prog 96 8 257 laid8 os tape = some (laid8.filter fun x => x.2.handleName?.isNone, (funcsListed laid8).map (·.2.funcsOut)) := by kernel_rfl
theorem tie : Tryz.prog.laidByTextLater laid8 [.data, .data, .data, .data, .sentinel, .sentinel, .listed, .data] true :=
  Program.laidByTextLater_by_one 96 8 257 tie_a tie_b tie_c tie_d tie_e tie_f tie_g

abbrev lastName : String := (Rows.proofSealRow.laid.map (·.1)).getD 8 ""
theorem pin_last : Tryz.pinned.checked.prog.pinnedFits lastName = true := by kernel_rfl
theorem noOwnUnsafe : Tryz.pinned.checked.prog.headLifts.contains "ownunsafe" = false := by kernel_rfl
theorem fits1 : Tryz.pinned.checked.prog.listedFits Rows.proofSealRow.laid = true := by
  unfold Program.listedFits
  rw [noOwnUnsafe]
  kernel_rfl
theorem proofClaimsUpto_row_tie : Rows.proofClaimsUptoRow.laidByTextAt .later Tryz.pinned [.data, .data, .data, .data, .sentinel, .sentinel, .listed, .data, .pinned] true :=
  OpenClaim.laidByTextAt_pinned rfl rfl tie rfl rfl rfl rfl (fun y hy _e => by
    simp only [Rows.proofClaimsUptoRow, List.zip_cons_cons, List.zip_nil_right, List.mem_cons, List.mem_nil_iff, or_false] at hy
    rcases hy with rfl | rfl | rfl | rfl | rfl | rfl | rfl | rfl | rfl
    · cases _e
    · cases _e
    · cases _e
    · cases _e
    · cases _e
    · cases _e
    · cases _e
    · cases _e
    · exact ⟨pin_last, by kernel_rfl⟩) fits1
end Go.Proofs.YtcedalofcekdkaaGreatDoor
