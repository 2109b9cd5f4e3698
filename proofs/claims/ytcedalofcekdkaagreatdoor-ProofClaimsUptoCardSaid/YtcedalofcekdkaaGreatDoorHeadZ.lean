/- head, as a call. -/
import Derived.Test.YtcedalofcekdkaaGreatDoorSealA
import Derived.Test.YtcedalofcekdkaaGreatDoorHeadOK
set_option linter.unusedSimpArgs false
set_option linter.unusedVariables false
namespace Go.Proofs.YtcedalofcekdkaaGreatDoor
open Go.RowKit

theorem head_calls {w : World} (h : Go.Proofs.YtcedalofcekdkaaGreatDoor.Ex.Laid 5 w) : Calls Tryz.prog 8 #[] w fun e w' => e = .returned (.bool true) ∧ Below w.heap.size w w' := by
  intro cs
  obtain ⟨w', hl, h1, h2, h3, h4, h5⟩ := Go.Proofs.YtcedalofcekdkaaGreatDoor.Ex.head_ok h cs
  obtain ⟨fr, hl1, hl2, hl3⟩ := hl
  exact ⟨_, w', fr, ⟨rfl, h3, h4, h5, h2, fun k hk => h1 k hk⟩, hl1, hl2, hl3⟩
end Go.Proofs.YtcedalofcekdkaaGreatDoor
