/- The witness of the start: the door's run lays what the row lists. -/
import Derived.Test.YtcedalofcekdkaaGreatDoorLaidRow
import Derived.LaidOnce
import Derived.WalkKit
import Derived.ProofKit
set_option linter.unusedSimpArgs false
set_option linter.unusedVariables false
namespace Go.Proofs.YtcedalofcekdkaaGreatDoor
set_option maxRecDepth 100000

theorem laidMet_of_bits {P : Program} {w : World} {l : List (String × DataW Unit)} (fuel M : Nat)
    (h : (DataW.laidRun P w fuel (l.map (·.1))).map (fun x => (x.1, nodupBits M x.2 0 && laidRowsB P w x.2)) = some (l, true)) : laidMet P l w := by
  cases hx : DataW.laidRun P w fuel (l.map (·.1)) with
  | none => rw [hx] at h; cases h
  | some x =>
    rw [hx] at h
    simp only [Option.map_some, Option.some.injEq, Prod.mk.injEq, Bool.and_eq_true] at h
    obtain ⟨h1, h2, h3⟩ := h
    exact laidMet_of_run (ps := x.2) fuel (by rw [hx, ← h1]) (decide_eq_true (nodupBits_sound h2).1) h3

def firstCells : Array Value := (Go.Pinned.utf8FirstZ.map fun z => Value.int .u8 (z : Nat)).toArray

noncomputable def doorW (os : Os) : World :=
  { World.doorLaid Tryz.prog 96 os with heap := (World.doorLaid Tryz.prog 96 os).heap.setIfInBounds 5 (.cells firstCells 405 (0, 0)) }
noncomputable abbrev doorM (os : Os) (args : Array Value) : World := (doorW os).forCall (fun _ _ => 0) ⟨#[], args, []⟩

theorem door_met (os : Os) (args : Array Value) : laidMetH Tryz.prog Rows.proofSealRow.laid (doorM os args).memory := by
  rw [MakeChecks.laidMetH_plain _ _ _ (by kernel_rfl)]
  exact laidMet_of_bits 8 257 (by kernel_rfl)
end Go.Proofs.YtcedalofcekdkaaGreatDoor
