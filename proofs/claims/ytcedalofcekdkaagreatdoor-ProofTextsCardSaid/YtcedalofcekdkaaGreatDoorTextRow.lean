/- ProofTexts returns true at every input of the row. -/
import Derived.Test.YtcedalofcekdkaaGreatDoorLaidRow
import Derived.Test.YtcedalofcekdkaaGreatDoorTextA
import Derived.Lib.LaidTab
import Derived.Test.YtcedalofcekdkaaGreatDoorTextQ
import Derived.Test.YtcedalofcekdkaaGreatDoorDoor
import Derived.WalkKit
import Derived.ProofKit
import Derived.OpenShut
import Derived.ShutString
import Derived.ChangeOld
import Derived.Below
set_option linter.unusedSimpArgs false
set_option linter.unusedVariables false
section
namespace Go.Proofs.YtcedalofcekdkaaGreatDoor
set_option maxRecDepth 100000

theorem iface_form {H : Type} {enc : TypeId × Value → H} {P : Program} {w : World} {base : Nat} {sp : Nat → Bool} {held : Bool} {f t : Nat} {ms : Array (String × TypeId)} {cs : List Value} {x : DataW H × List MemPlace}
    (ht : P.underlying t = some (.interface ms)) (h : DataW.trod enc P w base sp held f t cs = some x) : ∃ y, cs = [y] ∧ (y = .nilIface ∨ ∃ te pe, y = .iface te pe) := by
  cases f with
  | zero => simp [DataW.trod] at h
  | succ m =>
    unfold DataW.trod at h
    rw [ht] at h
    split at h <;> simp_all

theorem gRange : Tryz.prog.globalNamed "strconv.ErrRange" = some 1 := by kernel_rfl
theorem tRange : (Tryz.prog.globals[1]?).map (·.type) = some 89 := by kernel_rfl
theorem gPow : Tryz.prog.globalNamed "internal/strconv.uint64pow10" = some 3 := by kernel_rfl
theorem tPow : (Tryz.prog.globals[3]?).map (·.type) = some 397 := by kernel_rfl
theorem cells310 : Tryz.prog.cellsOf 310 = 1 := by kernel_rfl
theorem cells397 : Tryz.prog.cellsOf 397 = 20 := by kernel_rfl
theorem pow_eq : (Rows.laid_internal_strconv_uint64pow10 : DataW Unit) = Lib.tabData .u64 Lib.pow10Tab := by kernel_rfl

theorem text_laid {W : World} (h : laidMetH Tryz.prog Rows.proofSealRow.laid W) : TextLaid W := by
  rw [MakeChecks.laidMetH_plain _ _ _ (by kernel_rfl)] at h
  obtain ⟨ps, hv, _, _⟩ := h
  have m3 : ("internal/strconv.uint64pow10", (Rows.laid_internal_strconv_uint64pow10 : DataW Unit)) ∈ Rows.proofSealRow.laid := .tail _ (.tail _ (.head _))
  have m1 : ("strconv.ErrRange", (Rows.laid_strconv_ErrRange : DataW Unit)) ∈ Rows.proofSealRow.laid := .tail _ (.tail _ (.tail _ (.tail _ (.head _))))
  have m0 : ("strconv.ErrSyntax", (Rows.laid_strconv_ErrSyntax : DataW Unit)) ∈ Rows.proofSealRow.laid := .tail _ (.tail _ (.tail _ (.tail _ (.tail _ (.head _)))))
  obtain ⟨g3, t3, c3, f3, p3, hg3, ht3, hc3, hd3⟩ := laid_mem hv m3
  obtain ⟨g1, t1, c1, f1, p1, hg1, ht1, hc1, hd1⟩ := laid_mem hv m1
  obtain ⟨g0, t0, c0, f0, p0, hg0, ht0, hc0, hd0⟩ := laid_mem hv m0
  obtain rfl := Option.some.inj (gPow.symm.trans hg3)
  obtain rfl := Option.some.inj (gRange.symm.trans hg1)
  obtain rfl := Option.some.inj (gErr.symm.trans hg0)
  obtain rfl := Option.some.inj (tPow.symm.trans ht3)
  obtain rfl := Option.some.inj (tRange.symm.trans ht1)
  obtain rfl := Option.some.inj (tErr.symm.trans ht0)
  refine ⟨?_, ?_, ?_⟩
  · unfold Lib.TabIs
    rw [pow_eq] at hd3
    rw [hc3, ← Lib.cells_of_tab Tryz.underlying397 Tryz.underlying310 cells310 cells397 hd3]
  · obtain ⟨y, hy, hform⟩ := iface_form Tryz.underlying89 hd0
    refine ⟨y, ?_, hform⟩
    have := World.var?_cell hg0 hc0 0
    rw [← Array.getElem?_toList, hy] at this
    exact this
  · obtain ⟨y, hy, hform⟩ := iface_form Tryz.underlying89 hd1
    refine ⟨y, ?_, hform⟩
    have := World.var?_cell hg1 hc1 0
    rw [← Array.getElem?_toList, hy] at this
    exact this
end Go.Proofs.YtcedalofcekdkaaGreatDoor
end

section
namespace Go.Proofs.YtcedalofcekdkaaGreatDoor.proofTexts
open Go.ChangeShapes Go.WideShapes Go.ChangeAt Go.RowKit
open Go.ChangeMaps (open_string shut_string)
set_option linter.unusedVariables false

theorem own : ownKnob Tryz.prog.godebug = none := by kernel_rfl
theorem laidOut : laidOutB Tryz.prog = true := by kernel_rfl

def IsRow (k : IntKind) (w : World) (a : Option Addr) (len cap : Nat) (zs : List Int) : Prop :=
  (a = none ∧ len = 0 ∧ cap = 0 ∧ zs = []) ∨
  ∃ x, a = some x ∧ len ≤ cap ∧ cap ≤ maxLen ∧ zs.length = cap ∧ (∀ i, i < zs.length → w.cell? (x.add i) = some (.int k (zs.getD i 0))) ∧ ∀ n ∈ zs, (Lit.int k n).wf = true

theorem zs_row {w : World} {a : Option Addr} {len cap : Nat} {zs : List Int} (h : IsRow .u16 w a len cap zs) : ∃ xs : List Nat, U16Row w (.slice a len cap) xs := by
  rcases h with ⟨rfl, rfl, rfl, rfl⟩ | ⟨x, rfl, hl, hm, hz, hc, hw⟩
  · exact ⟨[], none, 0, rfl, by simp, .inl rfl⟩
  · refine ⟨(zs.take len).map Int.toNat, some x, cap, ?_, ?_, ?_⟩
    · rw [List.length_map, List.length_take, Nat.min_eq_left (by omega)]
    · intro j
      rw [List.getD_eq_getElem?_getD, List.getElem?_map, List.getElem?_take]
      split
      · have := range_u16 hw j
        cases e : zs[j]? with
        | none => simp
        | some y => rw [e] at this; simp at this ⊢; omega
      · simp
    · by_cases hp : len = 0
      · subst hp; exact .inl rfl
      · right
        obtain ⟨b, off, hx, hat⟩ := ints_at hc (by omega)
        refine ⟨b, off, by rw [hx], World.block_lt_of_cell? w _ (hat 0 (by omega)), fun j hj => ?_⟩
        rw [List.length_map, List.length_take] at hj
        have hjz : j < zs.length := by omega
        have hjl : j < len := by omega
        have hr := range_u16 hw j
        rw [hat j hjz]
        simp only [List.getD_eq_getElem?_getD, List.getElem?_map, List.getElem?_take, if_pos hjl, List.getElem?_eq_getElem hjz, Option.map_some, Option.getD_some] at hr ⊢
        rw [Int.toNat_of_nonneg hr.1]

theorem walk (a0 : Option Addr) (len0 cap0 : Nat) (z0 : List Int) (a1 : Int) (s2 : ByteArray) (w : World) (w0 : IsRow .u16 w a0 len0 cap0 z0) (w1 : (Lit.int .u16 a1).wf = true) (ws2 : s2.size ≤ maxLen) (hL : Go.Proofs.YtcedalofcekdkaaGreatDoor.Ex.Laid 5 w) (hT : TextLaid w) :
    Calls Tryz.prog 4 #[.slice a0 len0 cap0, .int .u16 a1, .string s2] w fun e w' => e = .returned (.bool true) ∧ Below w.heap.size w w' := by
  obtain ⟨xs, hx⟩ := zs_row w0
  have b1 := bounds_u16 w1
  obtain ⟨a, rfl⟩ := Int.eq_ofNat_of_zero_le b1.1
  exact proofTexts_walk hx a (by omega) s2 (by unfold maxLen at ws2; omega) hL hT

def seal0 : Array Value := #[.slice none 0 0, .int .u16 0, .string ByteArray.empty]
theorem shaped (os : Os) (args : Array Value) : (doorM os args).Shaped Tryz.prog := World.shaped_of_RefB (by kernel_rfl) (by kernel_rfl)
theorem okIn (os : Os) : Input.okWideB Tryz.checked.prog (doorM os seal0) 4 ⟨#[], seal0, []⟩ = true := by kernel_rfl
theorem preIn (os : Os) (H : Type) (enc : TypeId × Value → H) : Rows.proofTextsSpec.preB enc Tryz.checked.prog Tryz.f4 [] false (doorM os seal0).memory seal0 8 = true := by kernel_rfl
theorem sizedIn (os : Os) (H : Type) (enc : TypeId × Value → H) : Rows.proofTextsSpec.sizedB enc Tryz.checked.prog Tryz.f4 false (doorM os seal0).memory seal0 8 = true := by kernel_rfl

set_option maxRecDepth 100000 in
theorem lifted (os : Os) (started : os.Started) (H : Type) (enc : TypeId × Value → H) :
    ReturnsInHanded {} Tryz.checked os 4 .any (fun w args => (Rows.proofTextsSpec.pre enc Tryz.prog Tryz.f4 [] false w args ∧ laidMetH Tryz.prog Rows.proofTextsRow.laid w) ∧ sizedMet enc Tryz.prog Tryz.f4 (OpenSpec.ofChange Rows.proofTextsSpec) false w args) (Rows.proofTextsSpec.post enc Tryz.prog Tryz.f4 false true false false) := by
  refine returnsInHanded_of_change_and (C := Tryz.checked) (X := fun w _ => laidMetH Tryz.prog Rows.proofTextsRow.laid w) (fun _ _ _ hh h => h.of_heap hh) own started (by kernel_rfl) Tryz.func4
    (ChangeSpec.witness_shaped (enc := enc) (C := Tryz.checked) (os := os) (X := fun w _ => laidMetH Tryz.prog Rows.proofTextsRow.laid w) false (doorW os) seal0 8 rfl (shaped os seal0) (okIn os) (preIn os H enc) (sizedIn os H enc) (door_met os _)) ?_
  intro W base args ds gs before hval0 hW _ _ hL _
  have hval : ∀ (j : Nat) t v, Tryz.f4.params[j]? = some t → args[j]? = some v → Value.okWide Tryz.prog W .any base t v := hval0
  have hW' := hW
  obtain ⟨p, q, hA0, hV, rfl, hfz, hnd⟩ := hW
  have hA : DataW.TrodAll enc Tryz.prog W 0 (fun _ => true) true Tryz.f4.params.toList args.toList ds p := hA0
  rw [Tryz.params4] at hA hval
  obtain ⟨v0, vs0, d0, ds0, p0, q0, hargs, rfl, rfl, h0, r0⟩ := trodAll_cons hA
  obtain ⟨v1, vs1, d1, ds1, p1, q1, rfl, rfl, rfl, h1, r1⟩ := trodAll_cons r0
  obtain ⟨v2, vs2, d2, ds2, p2, q2, rfl, rfl, rfl, h2, r2⟩ := trodAll_cons r1
  obtain ⟨rfl, rfl, rfl⟩ := trodAll_nil r2
  obtain rfl : args = #[v0, v1, v2] := by cases args; simp_all
  obtain ⟨rfl, rfl⟩ := trodVars_none hV
  obtain ⟨a0, len0, cap0, rfl⟩ := okWide_slice Tryz.underlying22 (hval 0 22 v0 rfl rfl)
  have k0 := h0
  have lt0 : ∀ x ∈ p0, x.block < W.heap.size := by obtain ⟨m, hm⟩ := k0; exact DataW.trod_lt m _ _ _ hm
  obtain ⟨z0, w0⟩ : ∃ zs, IsRow .u16 W a0 len0 cap0 zs := by
    obtain ⟨fuel, hf⟩ := h0
    rcases open_ints Tryz.underlying22 Tryz.underlying23 (by kernel_rfl) hf with ⟨hcs, _⟩ | ⟨x, l, c, zs, hcs, _, hl, hm, hz, _, hcell, hwz⟩
    · simp [Value.cells] at hcs
      obtain ⟨rfl, rfl, rfl⟩ := hcs
      exact ⟨[], .inl ⟨rfl, rfl, rfl, rfl⟩⟩
    · simp [Value.cells] at hcs
      obtain ⟨rfl, rfl, rfl⟩ := hcs
      exact ⟨zs, .inr ⟨_, rfl, hl, hm, by simpa using hz, hcell, hwz⟩⟩
  obtain ⟨a1, rfl, rfl, rfl, w1⟩ := open_int Tryz.underlying23 (hval 1 23 v1 rfl rfl) h1
  obtain ⟨s2, rfl, rfl, rfl, ws2⟩ := open_string Tryz.underlying9 (hval 2 9 v2 rfl rfl) h2
  clear hA0 hval0
  refine (walk a0 len0 cap0 z0 a1 s2 W w0 w1 ws2 (of_laid hL) (text_laid hL)).mono fun e W' ⟨he, bel⟩ => ?_
  subst he
  exact ⟨_, rfl, _, _, _, [], _, [], hW', trodAll_mk1 (shut_bool Tryz.underlying4 _), (trodAll_cons_mk (Below.trod laidOut (by kernel_rfl) (of_decide_eq_true (by kernel_rfl)) k0 bel lt0) (trodAll_cons_mk (shut_int Tryz.underlying23 w1) (trodAll_cons_mk (shut_string (s := s2) Tryz.underlying9 ws2) trodAll_mk0))), rfl, bel.frame _, fun h => by cases h⟩
end Go.Proofs.YtcedalofcekdkaaGreatDoor.proofTexts
end
