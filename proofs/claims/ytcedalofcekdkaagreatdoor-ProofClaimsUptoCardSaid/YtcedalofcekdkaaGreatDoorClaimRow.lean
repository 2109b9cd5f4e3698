/- ProofClaims returns true at every input of the row. -/
import Derived.Test.YtcedalofcekdkaaGreatDoorLawC
import Derived.Test.YtcedalofcekdkaaGreatDoorOpenA
import Derived.Test.YtcedalofcekdkaaGreatDoorDoor
import Derived.WalkKit
import Derived.ProofKit
import Derived.OpenShut
import Derived.ChangeOld
import Derived.Below
import Derived.Carry
import Derived.Deep.DeepHandedRow
set_option linter.unusedSimpArgs false
set_option linter.unusedVariables false
namespace Go.Proofs.YtcedalofcekdkaaGreatDoor.proofClaims
open Go.ChangeShapes Go.WideShapes Go.ChangeAt Go.RowKit
set_option linter.unusedVariables false

theorem own : ownKnob Tryz.prog.godebug = none := by kernel_rfl
theorem laidOut : laidOutB Tryz.prog = true := by kernel_rfl

def none24 : Value := .agg #[.int .i64 0, .slice none 0 0, .int .i64 0, .string ByteArray.empty, .int .i64 0, .int .i64 0, .slice none 0 0, .int .i64 0, .int .i64 0, .int .i64 0, .slice none 0 0, .slice none 0 0, .int .i64 0, .int .i64 0, .int .i64 0, .slice none 0 0, .slice none 0 0, .slice none 0 0, .slice none 0 0, .slice none 0 0, .slice none 0 0, .slice none 0 0, .slice none 0 0, .slice none 0 0]
def args0 : Array Value := #[none24, none24]
def noneD {H : Type} : DataW H := .agg [.lit (.int .i64 0), .nil, .agg [.lit (.int .i64 0), .lit (.string []), .lit (.int .i64 0), .lit (.int .i64 0), .nil], .agg [.lit (.int .i64 0), .lit (.int .i64 0), .lit (.int .i64 0), .nil, .nil], .agg [.lit (.int .i64 0), .lit (.int .i64 0), .lit (.int .i64 0), .nil, .nil], .nil, .agg [.nil, .nil, .nil], .nil, .nil, .nil]
theorem shaped (os : Os) (args : Array Value) : (doorM os args).Shaped Tryz.prog := World.shaped_of_RefB (by kernel_rfl) (by kernel_rfl)
theorem okIn (os : Os) : Input.okWideB Tryz.checked.prog (doorM os args0) 6 ⟨#[], args0, []⟩ = true := by kernel_rfl
theorem reads (os : Os) {H : Type} (enc : TypeId × Value → H) : DataW.whole enc Tryz.prog (doorM os args0).memory Tryz.f6.params.toList Rows.proofClaimsSpec.vars false args0.toList 8 = some ([noneD, noneD], [], []) := by kernel_rfl
theorem sizedIn (os : Os) (H : Type) (enc : TypeId × Value → H) : (Rows.OpenSpec.upto Rows.proofClaimsSpec).bare.sizedB enc Tryz.checked.prog Tryz.f6 false (doorM os args0).memory args0 8 = true := by kernel_rfl
theorem small0 (H : Type) : Rows.uptoSmall H ([noneD, noneD] ++ []) = true := by kernel_rfl

set_option maxRecDepth 100000 in

theorem open_arg {H : Type} {enc : TypeId × Value → H} {W : World} {v : Value} {d : DataW H} {p : List MemPlace} {base : Nat} (hval : Value.okWide Tryz.prog W .any base 55 v) (h : DataW.Trod enc Tryz.prog W 0 (fun _ => true) true 55 v d p) (hd : Rows.uptoBulk d ≤ 1048576) : ∃ c, ClaimV W v c ∧ Room c := by
  obtain ⟨cs, rfl, -⟩ := okWide_struct Tryz.underlying55 hval
  obtain ⟨fuel, hf⟩ := h
  obtain ⟨c, hc, hr⟩ := open55 hf hd
  exact ⟨c, ⟨cs, rfl, by simpa [Value.cells] using hc⟩, hr⟩

set_option maxRecDepth 100000 in
theorem contract (H : Type) (enc : TypeId × Value → H) (W : World) (base : Nat) (args : Array Value) (ds gs : List (DataW H)) (before : List MemPlace)
    (hval : ∀ (j : Nat) t v, Tryz.f6.params[j]? = some t → args[j]? = some v → Value.okWide Tryz.prog W .any base t v)
    (hW : DataW.Whole enc Tryz.prog Tryz.f6.params.toList Rows.proofClaimsSpec.vars false W args.toList ds gs before) (hk : Rows.uptoSmall H (ds ++ gs) = true)
    (hL : laidMetH Tryz.prog Rows.proofClaimsUptoRow.laid W) :
    Calls Tryz.prog 6 args W fun e W' => ∃ v, e = .returned v ∧ Rows.proofClaimsSpec.post enc Tryz.prog Tryz.f6 false true false false W args v W' := by
  have hW' := hW
  obtain ⟨p, q, hA0, hV, rfl, hfz, hnd⟩ := hW
  have hA : DataW.TrodAll enc Tryz.prog W 0 (fun _ => true) true Tryz.f6.params.toList args.toList ds p := hA0
  rw [Tryz.params6] at hA hval
  obtain ⟨v0, vs0, d0, ds0, p0, q0, hargs, rfl, rfl, h0, r0⟩ := trodAll_cons hA
  obtain ⟨v1, vs1, d1, ds1, p1, q1, rfl, rfl, rfl, h1, r1⟩ := trodAll_cons r0
  obtain ⟨rfl, rfl, rfl⟩ := trodAll_nil r1
  obtain rfl : args = #[v0, v1] := by cases args; simp_all
  obtain ⟨rfl, rfl⟩ := trodVars_none hV
  have hsm := of_decide_eq_true hk
  simp only [List.append_nil, Rows.uptoBulkAll] at hsm
  have k0 := h0
  have k1 := h1
  have lt0 : ∀ x ∈ p0, x.block < W.heap.size := by obtain ⟨m, hm⟩ := k0; exact DataW.trod_lt m _ _ _ hm
  have lt1 : ∀ x ∈ p1, x.block < W.heap.size := by obtain ⟨m, hm⟩ := k1; exact DataW.trod_lt m _ _ _ hm
  obtain ⟨c, hc, rc⟩ := open_arg (hval 0 55 v0 rfl rfl) h0 (by omega)
  obtain ⟨d, hd, rd⟩ := open_arg (hval 1 55 v1 rfl rfl) h1 (by omega)
  clear hA0
  refine (claims_walk hc hd rc rd (of_laid hL)).mono fun e W' ⟨he, bel⟩ => ?_
  subst he
  exact ⟨_, rfl, _, _, _, [], _, [], hW', trodAll_mk1 (shut_bool Tryz.underlying4 _), (trodAll_cons_mk (Below.trod laidOut (by kernel_rfl) (of_decide_eq_true (by kernel_rfl)) k0 bel lt0) (trodAll_cons_mk (Below.trod laidOut (by kernel_rfl) (of_decide_eq_true (by kernel_rfl)) k1 bel lt1) trodAll_mk0)), rfl, bel.frame _, fun h => by cases h⟩

set_option maxRecDepth 100000 in
theorem lifted (os : Os) (started : os.Started) (H : Type) (enc : TypeId × Value → H) (F : Stop.Interp) :
    ReturnsInHanded {} Tryz.checked os 6 .any ((Rows.OpenSpec.upto Rows.proofClaimsSpec).preRow enc Tryz.prog Tryz.f6 Rows.proofClaimsUptoRow.domain false Rows.proofClaimsUptoRow.laid) (((Rows.OpenSpec.upto Rows.proofClaimsSpec).at F).post enc Tryz.prog Tryz.f6 false true false false) := by
  refine returnsInHanded_of_row (C := Tryz.checked) (s := Rows.OpenSpec.upto Rows.proofClaimsSpec) own started (by kernel_rfl) Tryz.func6
    ⟨doorW os, fun _ _ => 0, ⟨#[], args0, []⟩, rfl, shaped os args0, (Input.okWide_of_okWideB (base := 0) (okIn os)).1, (Input.okWide_of_okWideB (okIn os)).2,
      OpenSpec.preRow_of_cond 8 (reads os enc) (by kernel_rfl) (fun k hk => by cases hk; exact small0 H) (sizedIn os H enc) (door_met os _), by
        simp only [Assume.holds]
        exact ⟨by simp, by simp, fun _ => Modest.zero, by simp, by simp⟩⟩ ?_
  intro W base args ds gs before hval hW _ hcond _ hL _ _
  exact contract H enc W base args ds gs before hval hW (hcond _ rfl) hL
end Go.Proofs.YtcedalofcekdkaaGreatDoor.proofClaims
