/- ProofClaims: whatever two claims are handed in, the law returns true and its input reads as it did. Conditions: those of the given card of the second form alone: the reading of the arguments is of bulk at most 1048576. -/
import Derived.Test.YtcedalofcekdkaaGreatDoorClaimOver
import Derived.Test.YtcedalofcekdkaaGreatDoorCardF6
import Derived.Test.YtcedalofcekdkaaGreatDoorOverG
import Derived.Test.YtcedalofcekdkaaGreatDoorTieC
import Derived.SevenTiedAt
set_option linter.unusedSimpArgs false
set_option linter.unusedVariables false
namespace Go.Proofs.YtcedalofcekdkaaGreatDoor.proofClaims
open Go

theorem card : Rows.ProofClaimsUptoCardSaid :=
  Claim7.holds_tied_plain_at .later [] [.data, .data, .data, .data, .sentinel, .sentinel, .listed, .data, .pinned] true (true, "4b4a5bd6ee01568f030fc7a58f3a01d07439e7cc3b123be10bb46bcec854269a") true
    over (fun _ h => by cases h) byText (fun _ h => by cases h) proofClaimsUpto_row_tie rfl ⟨rfl, rfl⟩ harness rfl
    (fun f fn hf hfn => by
      obtain rfl : 6 = f := Option.some.inj (isNamed.symm.trans hf)
      obtain rfl : Tryz.f6 = fn := Option.some.inj (Tryz.func6.symm.trans hfn)
      refine ⟨looks, fun j t ht => ?_⟩
      have h := List.all_eq_true.1 wants t (List.mem_of_getElem? (by rw [Array.getElem?_toList]; exact ht))
      exact (Bool.not_eq_true' _).mp h)
    (over.goesBy_of over.noGoes rfl)
#print axioms card
end Go.Proofs.YtcedalofcekdkaaGreatDoor.proofClaims
