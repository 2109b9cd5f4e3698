/- The executor is sound, part 3: what it answers is what the machine does. -/
import Derived.Test.YtcedalofcekdkaaGreatDoorExP1
set_option linter.unusedSimpArgs false
set_option linter.unusedVariables false
section
namespace Go.Proofs.YtcedalofcekdkaaGreatDoor.Ex
section
variable {P : Program} {E : Env} {B : Nat} {ops : Array Oper} {b : Frame} {k : List Item} {cs : List Frame} {i : Nat} {rest : List Nat} {o : Oper}
variable {ρ : Ren} {st st' : St} {a : Act} {w : World} {v : AV}

theorem finS_ok (H : Here ops i o a) (hi : Inv E B ρ st a w) {r : Option (AV × St)} (hr : ∀ v s, r = some (v, s) → Ran P E B ρ st a w o s v) :
    (finS o.dst r).Holds (OpPost P E B ops b k cs i rest ρ st a w) := by
  cases r with
  | none => trivial
  | some p => exact fin_ran H hi (hr p.1 p.2 rfl)

theorem convert_ok (hE : EnvOK P E B) (hLib : LibOK P E) {s d : Nat} {x : Operand} (H : Here ops i o a) (hi : Inv E B ρ st a w) (ho : o.op = .convert s d x) (self : Self) :
    (hConvert s d x E self o.dst st).Holds (OpPost P E B ops b k cs i rest ρ st a w) := by
  unfold hConvert
  split
  · rename_i u e
    have hx := ev_ok hi e
    cases ec : convX E st s d u with
    | some r =>
      obtain ⟨y, hy, hv⟩ := convX_ok (P := P) hE hLib hi.hr hx ec
      exact fin_ran H hi (ran_pure hi (x := y) (by simp [execOp, ho, hy]) hv)
    | none =>
      refine finS_ok H hi fun v s' es => ?_
      obtain ⟨y, w', ρ', hy, h1, h2, h3, h4⟩ := bytesX_ok (P := P) hE hi.hr hx es
      exact ⟨y, w', ρ', _, by simp [execOp, ho, hy], .inl rfl, h1, h2, h3, h4⟩
  · trivial

theorem newMap_ok (H : Here ops i o a) (hi : Inv E B ρ st a w) (hrun : ∀ w, (execOp a.eval o).run P w = .ok (.value (.map (some w.heap.size))) { w with heap := w.heap.push (.map #[] 0) }) :
    (newMap o.dst st).Holds (OpPost P E B ops b k cs i rest ρ st a w) := by
  unfold newMap
  split
  · rename_i g s e
    obtain ⟨rfl, hs, hhp, hnx⟩ := newG_eq e
    obtain ⟨h1, h2⟩ := HR.new hi.hr (.map #[] 0) (.map [] 0) 0 0 rfl (fun w' hw' _ => ⟨_, #[], Ren.with_at _ _ _ _, hw', by simp [EntsR]⟩)
    refine fin_ran H hi ⟨_, _, ρ.with st.nx 0 ⟨w.heap.size, 0, 0⟩, _, hrun w, .inl rfl, .map _ _ (Ren.with_at _ _ _ _), ?_, ?_, hs⟩
    · unfold HRs; rw [hhp, hnx]; exact h1
    · unfold Evs; rw [hhp, hnx]; exact h2
  · trivial

theorem map_ok (hE : EnvOK P E B) {t : Nat} {r : Option Operand} (H : Here ops i o a) (hi : Inv E B ρ st a w) (ho : o.op = .makeMap t r) (self : Self) :
    (hMap t r E self o.dst st).Holds (OpPost P E B ops b k cs i rest ρ st a w) := by
  unfold hMap
  cases r with
  | none => exact newMap_ok H hi fun w => by simp [execOp, ho, Instr.makeMap]
  | some x =>
    simp only
    split
    · rename_i ti kt et z1 z2 z3 z4 kd n e1 e2
      have hx := ev_ok hi e2
      obtain ⟨d, hd, hu, _⟩ := (hE.ti t _ e1).underlying
      cases hu
      generalize hax : a.eval x = ax at hx
      cases hx
      exact newMap_ok H hi fun w => by simp [execOp, ho, Instr.makeMap, hd, hax, asInt, asIntOf]
    · trivial

theorem wrap_small {n : Nat} (h : n < 1000000) : IntKind.i64.wrap (n : Int) = n := by
  simp only [IntKind.wrap, IntKind.bits, IntKind.signed]
  have h1 : ((n : Int) % (2 ^ 64 : Int)) = n := Int.emod_eq_of_lt (by omega) (by omega)
  simp only [h1]
  rw [if_neg (by simp; omega)]

theorem makeSlice_ok (hE : EnvOK P E B) {t : Nat} {l c : Operand} (H : Here ops i o a) (hi : Inv E B ρ st a w) (ho : o.op = .makeSlice t l c) (self : Self) :
    (hMakeSlice t l c E self o.dst st).Holds (OpPost P E B ops b k cs i rest ρ st a w) := by
  unfold hMakeSlice
  split
  · rename_i u1 u2 e1 e2
    have hx := ev_ok hi e1
    have hy := ev_ok hi e2
    refine finS_ok H hi fun v s' es => ?_
    unfold makeSliceX at es
    split at es
    · rename_i e z1 z2 z3 z4 ln cp et en1 en2
      obtain ⟨k1, hk1⟩ := intOf_ok en1 hx
      obtain ⟨k2, hk2⟩ := intOf_ok en2 hy
      obtain ⟨d, hd, hu, _⟩ := (hE.ti t _ et).underlying
      cases hu
      cases ee : E.ti e with
      | none => simp [ee] at es
      | some ei =>
        simp only [ee] at es
        cases c1 : Nat.ble ln cp <;> cases c2 : Nat.blt cp 1000000 <;> simp only [c1, c2] at es <;> first | (cases es; done) | skip
        cases c3 : Nat.blt 0 ei.size <;> cases c4 : Nat.blt ei.bytes 1000000 <;> simp only [c3, c4] at es <;> first | (cases es; done) | skip
        have hle := Nat.le_of_ble_eq_true c1
        have hcp : cp < 1000000 := by simp [Nat.blt] at c2; omega
        have hpos : 0 < ei.size := by simp [Nat.blt] at c3; omega
        have hbt : ei.bytes < 1000000 := by simp [Nat.blt] at c4; omega
        cases en : st.newCells e (repL ei.zero cp) with
        | none => simp [en] at es
        | some p =>
          obtain ⟨g, s2⟩ := p
          simp [en] at es
          obtain ⟨rfl, rfl⟩ := es
          have hEl := hE.ti e ei ee
          obtain ⟨zv, hz, hzv, _, hzl⟩ := hEl.zero
          obtain ⟨f, hf, hfb, _⟩ := hEl.typeInfo
          have hzs : zv.cells.size = ei.size := by have := (hzv ρ).length; simp at this; omega
          have hrep := repL_ok (hzv ρ) (by omega) cp
          rw [hzs] at hrep
          obtain ⟨ρ', h1, h2, h3, h4, _⟩ := newCells_ok hi.hr en hrep
          refine ⟨.slice (some ⟨w.heap.size, 0, none⟩) ln cp, _, ρ', _, ?_, .inl rfl, by simpa using VR.sl (ρ := ρ') g 0 0 ln cp _ h4, h1, h2, h3⟩
          have hw1 := wrap_small (n := ln) (by omega)
          have hw2 := wrap_small hcp
          have hbig : ¬ (2 ^ 48 : Int) < (ei.bytes : Int) * (cp : Int) := by
            have : ei.bytes * cp ≤ 1000000 * 1000000 := Nat.mul_le_mul (by omega) (by omega)
            have h2 : ((ei.bytes * cp : Nat) : Int) ≤ 1000000000000 := by omega
            simp only [Int.natCast_mul] at h2
            omega
          have hzero : ∀ w, (if cp * ei.size = 0 then pure #[] else do pure (← zeroValue e).cells : Sem (Array Value)).run P w = .ok (if cp * ei.size = 0 then #[] else zv.cells) w := by
            intro w
            split <;> simp [hz]
          have hcells : (Array.range (cp * ei.size)).map ((if cp * ei.size = 0 then #[] else zv.cells)[· % (if cp * ei.size = 0 then #[] else zv.cells).size]!) = (Array.range (cp * ei.size)).map (zv.cells[· % ei.size]!) := by
            split
            · rename_i h0
              have e0 : Array.range 0 = #[] := rfl
              rw [h0, e0, Array.map_empty, Array.map_empty]
            · rw [hzs]
          simp only [execOp, ho, hk1, hk2]
          simp only [Instr.makeSlice, Sem.run_bind, hd, Result.andThen_ok, asInt, asIntOf, Sem.run_pure, hf, hfb, hw1, hw2]
          have hcond : (((decide ((cp : Int) < 0) || decide ((ei.bytes : Int) * (cp : Int) > 2 ^ 48)) || decide ((ln : Int) < 0)) || decide ((ln : Int) > (cp : Int))) = false := by
            simp; omega
          rw [if_neg (by rw [hcond]; simp)]
          simp only [Sem.run_bind, run_askRoom, Result.andThen_ok, hEl.sizeOf, Int.toNat_natCast]
          by_cases h0 : cp * ei.size = 0
          · rw [if_pos h0]
            rw [if_pos h0] at hcells
            simp only [Sem.run_bind, Sem.run_pure, Result.andThen_ok, hcells, newRow, run_newObj]
          · rw [if_neg h0]
            rw [if_neg h0, hzs] at hcells
            simp only [Sem.run_bind, Sem.run_pure, Result.andThen_ok, hz, hzs, newRow, run_newObj]
    · cases es
  · trivial

theorem sliceB_ok {d n : Nat} {x : Option Operand} (hi : Inv E B ρ st a w) (h : sliceB st d x = some n) :
    (x = none ∧ n = d) ∨ ∃ op kd, x = some op ∧ a.eval op = .int kd n := by
  cases x with
  | none => simp [sliceB] at h; exact .inl ⟨rfl, h.symm⟩
  | some op =>
    simp only [sliceB, St.ev] at h
    cases e : ev op st with
    | none => simp [e] at h
    | some v =>
      simp [e] at h
      obtain ⟨kd, hk⟩ := intOf_ok h (ev_ok hi e)
      exact .inr ⟨op, kd, rfl, hk⟩

theorem run_bounds {isSlice : Bool} {len cap l h : Nat} {lo hi' : Option Operand} (hi : Inv E B ρ st a w) (hl : sliceB st 0 lo = some l) (hh : sliceB st len hi' = some h) (h1 : l ≤ h) (h2 : h ≤ cap) :
    (Instr.sliceBounds isSlice len cap (lo.map a.eval) (hi'.map a.eval) none).run P w = .ok (l, h, cap) w := by
  rcases sliceB_ok hi hl with ⟨rfl, rfl⟩ | ⟨op, kd, rfl, e1⟩ <;> rcases sliceB_ok hi hh with ⟨rfl, rfl⟩ | ⟨op', kd', rfl, e2⟩
  · simp [Instr.sliceBounds]
  · simp [Instr.sliceBounds, Instr.sliceBound, asIntOf, e2, h2]
  · simp [Instr.sliceBounds, Instr.sliceBound, asIntOf, e1, h1]
  · simp [Instr.sliceBounds, Instr.sliceBound, asIntOf, e1, e2, h1, h2]

theorem bytes_extract (s : List Nat) (l h : Nat) : (bytes s).extract l h = bytes ((s.take h).drop l) := by
  apply ByteArray.ext
  rw [ByteArray.data_extract]
  simp only [bytes]
  apply Array.ext'
  simp [List.map_take, List.map_drop, List.extract_eq_take_drop]
  rw [List.drop_take]

theorem sliceX_ok (hE : EnvOK P E B) {t : Nat} {x : AV} {cx : Value} {lo hi' mx : Option Operand} (hi : Inv E B ρ st a w) (hx : VR ρ x cx) (hs : sliceX E st t x lo hi' mx = some v) :
    ∃ y, (Instr.sliceAt t cx (lo.map a.eval) (hi'.map a.eval) (mx.map a.eval)).run P w = .ok y w ∧ VR ρ v y := by
  unfold sliceX at hs
  cases mx with
  | some m => simp at hs
  | none =>
    simp only at hs
    cases el : sliceB st 0 lo with
    | none => simp [el] at hs
    | some l =>
      simp only [el] at hs
      cases et : E.ti t with
      | none => simp [et] at hs
      | some ti =>
        obtain ⟨d, hd, hu, hag⟩ := (hE.ti t ti et).underlying
        obtain ⟨u, size, isAgg, zero, bts⟩ := ti
        simp only [et] at hs
        cases u <;> (try simp only at hs) <;> first | (cases hs; done) | skip
        ·
          cases hu
          cases x <;> (try simp only at hs) <;> first | (cases hs; done) | skip
          rename_i s
          cases eh : sliceB st (lenL s) hi' with
          | none => simp [eh] at hs
          | some h =>
            simp only [eh] at hs
            cases c1 : Nat.ble l h with
            | false => simp [c1] at hs
            | true =>
              simp only [c1] at hs
              cases c2 : takeL h s with
              | none => simp [c2] at hs
              | some s' =>
                simp [c2] at hs; subst hs
                obtain ⟨h1, h2⟩ := takeL_eq _ _ _ c2
                cases hx
                have hr := run_bounds (P := P) (isSlice := false) (cap := s.length) hi el eh (Nat.le_of_ble_eq_true c1) h2
                rw [lenL_eq] at hr
                refine ⟨.string (bytes ((s.take h).drop l)), ?_, by rw [dropL_eq, h1]; exact .str _⟩
                simp [Instr.sliceAt, Instr.slice, hd, hr, bytes_extract]
        ·
          rename_i e
          cases hu
          cases x <;> (try simp only at hs) <;> first | (cases hs; done) | skip
          · cases eh : sliceB st 0 hi' with
            | none => simp [eh] at hs
            | some h =>
              cases ee : E.ti e with
              | none => simp [eh, ee] at hs
              | some ei =>
              simp only [eh, ee] at hs
              cases c1 : Nat.beq l 0 <;> cases c2 : Nat.beq h 0 <;> simp [c1, c2] at hs
              subst hs
              have e1 := Nat.eq_of_beq_eq_true c1
              have e2 := Nat.eq_of_beq_eq_true c2
              subst e1; subst e2
              cases hx
              have hr := run_bounds (P := P) (isSlice := true) (cap := 0) hi el eh (Nat.le_refl _) (Nat.le_refl _)
              exact ⟨_, by simp [Instr.sliceAt, Instr.slice, hd, hr, (hE.ti e ei ee).sizeOf], .nils⟩
          · rename_i g m off len cap
            cases eh : sliceB st len hi' with
            | none => simp [eh] at hs
            | some h =>
              cases ee : E.ti e with
              | none => simp [eh, ee] at hs
              | some ei =>
                simp only [eh, ee] at hs
                cases c1 : Nat.ble l h <;> cases c2 : Nat.ble h cap <;> simp only [c1, c2] at hs <;> first | (cases hs; done) | skip
                have hr := run_bounds (P := P) (isSlice := true) (cap := cap) hi el eh (Nat.le_of_ble_eq_true c1) (Nat.le_of_ble_eq_true c2)
                cases hx with
                | sl _ _ _ _ _ L hL =>
                  cases c3 : Nat.beq cap l with
                  | true =>
                    have e3 := Nat.eq_of_beq_eq_true c3
                    simp [c3] at hs; subst hs
                    subst e3
                    refine ⟨_, ?_, .sl _ _ _ _ _ L hL⟩
                    simp [Instr.sliceAt, Instr.slice, hd, hr, (hE.ti e ei ee).sizeOf]
                  | false =>
                    have e3 : cap ≠ l := fun e => by rw [e] at c3; simp at c3
                    simp [c3] at hs; subst hs
                    refine ⟨_, ?_, .sl _ _ _ _ _ L hL⟩
                    simp [Instr.sliceAt, Instr.slice, hd, hr, (hE.ti e ei ee).sizeOf, e3, add_none, Nat.add_assoc]
          · rename_i g m off len z
            cases eh : sliceB st len hi' with
            | none => simp [eh] at hs
            | some h =>
              cases ee : E.ti e with
              | none => simp [eh, ee] at hs
              | some ei =>
                simp only [eh, ee] at hs
                cases c1 : Nat.ble l h <;> cases c2 : Nat.ble h len <;> cases c3 : Nat.beq z ei.size <;> simp only [c1, c2, c3] at hs <;> first | (cases hs; done) | skip
                have e3 := Nat.eq_of_beq_eq_true c3
                subst e3
                have hlh := Nat.le_of_ble_eq_true c1
                have hhl := Nat.le_of_ble_eq_true c2
                cases hx with
                | su _ _ _ _ _ L hL hz hc =>
                  have hcap : len ≤ (L.t - L.s - off) / ei.size := by rw [Nat.le_div_iff_mul_le hz]; omega
                  have hr := run_bounds (P := P) (isSlice := true) (cap := (L.t - L.s - off) / ei.size) hi el eh hlh (by omega)
                  have hhz : h * ei.size ≤ len * ei.size := Nat.mul_le_mul_right _ hhl
                  cases l with
                  | zero =>
                    simp at hs; subst hs
                    refine ⟨.slice (some ⟨L.b, L.s + off, none⟩) h ((L.t - L.s - off) / ei.size), ?_, .su _ _ _ _ _ L hL hz (by omega)⟩
                    by_cases h0 : (L.t - L.s - off) / ei.size = 0
                    · rw [h0] at hr ⊢
                      simp [Instr.sliceAt, Instr.slice, hd, hr, (hE.ti e ei ee).sizeOf]
                    · simp [Instr.sliceAt, Instr.slice, hd, hr, (hE.ti e ei ee).sizeOf, h0, add_none]
                  | succ l =>
                    simp only at hs
                    cases c4 : Nat.blt (l + 1) len with
                    | false =>
                      simp [c4] at hs; subst hs
                      have hnl : ¬ l + 1 < len := fun e => by
                        have : Nat.blt (l + 1) len = true := by simp [Nat.blt]; omega
                        rw [c4] at this; cases this
                      have e1 : l + 1 = len := by omega
                      have e2 : h = len := by omega
                      subst e2
                      have := VR.sr (ρ := ρ) g m off h ei.size L hL hz (by omega) hc
                      refine ⟨_, ?_, this⟩
                      rw [e1] at hr
                      by_cases hC : (L.t - L.s - off) / ei.size = h
                      · rw [hC] at hr ⊢
                        simp [Instr.sliceAt, Instr.slice, hd, hr, (hE.ti e ei ee).sizeOf]
                      · simp [Instr.sliceAt, Instr.slice, hd, hr, (hE.ti e ei ee).sizeOf, hC, add_none]
                    | true =>
                      simp [c4] at hs; subst hs
                      have hlt : l + 1 < len := by simp [Nat.blt] at c4; omega
                      have hne : (L.t - L.s - off) / ei.size ≠ l + 1 := by omega
                      have hmul : (h - (l + 1)) * ei.size = h * ei.size - (l + 1) * ei.size := Nat.sub_mul _ _ _
                      have hlz : (l + 1) * ei.size ≤ h * ei.size := Nat.mul_le_mul_right _ hlh
                      have := VR.su (ρ := ρ) g m (off + (l + 1) * ei.size) (h - (l + 1)) ei.size L hL hz (by omega)
                      have hq : (L.t - L.s - (off + (l + 1) * ei.size)) / ei.size = (L.t - L.s - off) / ei.size - (l + 1) := by
                        rw [← Nat.sub_sub, Nat.mul_comm (l + 1), Nat.sub_mul_div]
                      rw [hq] at this
                      refine ⟨_, ?_, this⟩
                      simp [Instr.sliceAt, Instr.slice, hd, hr, (hE.ti e ei ee).sizeOf, hne, add_none, Nat.add_assoc]
        ·
          rename_i n e
          cases hu
          cases x <;> (try simp only at hs) <;> first | (cases hs; done) | skip
          rename_i g m off
          cases eh : sliceB st n hi' with
          | none => simp [eh] at hs
          | some h =>
            cases ee : E.ti e with
            | none => simp [eh, ee] at hs
            | some ei =>
              simp only [eh, ee] at hs
              cases c1 : Nat.ble l h <;> cases c2 : Nat.ble h n <;> simp only [c1, c2] at hs <;> first | (cases hs; done) | skip
              have hr := run_bounds (P := P) (isSlice := false) (cap := n) hi el eh (Nat.le_of_ble_eq_true c1) (Nat.le_of_ble_eq_true c2)
              cases hx with
              | ptr _ _ _ L hL =>
                cases c3 : Nat.beq n l with
                | true =>
                  have e3 := Nat.eq_of_beq_eq_true c3
                  simp [c3] at hs; subst hs
                  subst e3
                  refine ⟨_, ?_, .sl _ _ _ _ _ L hL⟩
                  simp [Instr.sliceAt, Instr.sureAddr, hd, hr, (hE.ti e ei ee).sizeOf]
                | false =>
                  have e3 : n ≠ l := fun e => by rw [e] at c3; simp at c3
                  simp [c3] at hs; subst hs
                  refine ⟨_, ?_, .sl _ _ _ _ _ L hL⟩
                  simp [Instr.sliceAt, Instr.sureAddr, hd, hr, (hE.ti e ei ee).sizeOf, e3, add_none, Nat.add_assoc]

end
end Go.Proofs.YtcedalofcekdkaaGreatDoor.Ex
end

section
namespace Go.Proofs.YtcedalofcekdkaaGreatDoor.Ex
section
variable {P : Program} {E : Env} {B : Nat} {ops : Array Oper} {b : Frame} {k : List Item} {cs : List Frame} {i : Nat} {rest : List Nat} {o : Oper}
variable {ρ : Ren} {st st' : St} {a : Act} {w : World} {v : AV}

theorem slice_ok (hE : EnvOK P E B) {t : Nat} {x : Operand} {lo hi' mx : Option Operand} (H : Here ops i o a) (hi : Inv E B ρ st a w) (ho : o.op = .slice t x lo hi' mx) (self : Self) :
    (hSlice t x lo hi' mx E self o.dst st).Holds (OpPost P E B ops b k cs i rest ρ st a w) := by
  unfold hSlice
  split
  · rename_i u e
    have hx := ev_ok hi e
    cases ec : sliceX E st t u lo hi' mx with
    | some r =>
      obtain ⟨y, hy, hv⟩ := sliceX_ok (P := P) hE hi hx ec
      simp only [finO]
      exact fin_ran H hi (ran_pure hi (x := y) (by simp [execOp, ho, hy]) hv)
    | none => trivial
  · trivial

end
end Go.Proofs.YtcedalofcekdkaaGreatDoor.Ex
end

section
namespace Go.Proofs.YtcedalofcekdkaaGreatDoor.Ex

structure ZOK (P : Program) (E : Env) : Prop where
  one : ∀ t i zv (w : World), E.ti t = some i → i.isAgg = false → (zeroValue t).run P w = .ok zv w → zv.cells = #[zv]

section
variable {P : Program} {E : Env} {B : Nat} {ρ : Ren} {w : World}

theorem setVal_eq (v : AV) : ∀ (es : List (AV × AV × Nat)) (i : Nat), setVal v es i = es.modify i fun e => (e.1, v, e.2.2)
  | [], i => by cases i <;> simp [setVal]
  | (k, _, b) :: es, 0 => by simp [setVal]
  | e :: es, i + 1 => by
    simp only [setVal, setVal_eq v es i, List.modify_succ_cons]
    cases es.modify i fun e => (e.1, v, e.2.2) <;> rfl

theorem snocL_eq {α : Type} (l : List α) (x : α) : snocL l x = l ++ [x] := by
  induction l with
  | nil => rfl
  | cons a l ih => simp only [snocL, List.foldr] at ih ⊢; simp [ih]

theorem EntsR.length : ∀ {es : List (AV × AV × Nat)} {fs : List MapEntry}, EntsR ρ es fs → es.length = fs.length
  | [], [], _ => rfl
  | [], _ :: _, h => h.elim
  | (_, _, _) :: _, [], h => h.elim
  | (_, _, _) :: _, _ :: _, h => by simp [EntsR.length h.2.2.2]

theorem EntsR.snoc : ∀ {es : List (AV × AV × Nat)} {fs : List MapEntry}, EntsR ρ es fs → ∀ {k v : AV} {b : Nat} {e : MapEntry}, VR ρ k e.key → VR ρ v e.val → e.born = b → EntsR ρ (es ++ [(k, v, b)]) (fs ++ [e])
  | [], [], _, _, _, _, _, h1, h2, h3 => ⟨h1, h2, h3, trivial⟩
  | [], _ :: _, h, _, _, _, _, _, _, _ => h.elim
  | (_, _, _) :: _, [], h, _, _, _, _, _, _, _ => h.elim
  | (_, _, _) :: _, _ :: _, h, _, _, _, _, h1, h2, h3 => ⟨h.1, h.2.1, h.2.2.1, EntsR.snoc h.2.2.2 h1 h2 h3⟩

theorem EntsR.modify {v : AV} {x : Value} {key : Value} (hv : VR ρ v x) : ∀ {es : List (AV × AV × Nat)} {fs : List MapEntry}, EntsR ρ es fs → ∀ (i : Nat), (∀ e, fs[i]? = some e → e.key = key) →
    EntsR ρ (es.modify i fun e => (e.1, v, e.2.2)) (fs.modify i fun e => { e with key := key, val := x })
  | [], [], _, i, _ => by cases i <;> trivial
  | [], _ :: _, h, _, _ => h.elim
  | (_, _, _) :: _, [], h, _, _ => h.elim
  | (_, _, _) :: _, f :: _, h, 0, hk => by
    have := hk f rfl
    subst this
    exact ⟨h.1, hv, h.2.2.1, h.2.2.2⟩
  | (_, _, _) :: _, _ :: _, h, i + 1, hk => ⟨h.1, h.2.1, h.2.2.1, EntsR.modify hv h.2.2.2 i (fun e he => hk e (by simpa using he))⟩

theorem EntsR.del : ∀ {es : List (AV × AV × Nat)} {fs : List MapEntry}, EntsR ρ es fs → ∀ (i : Nat), EntsR ρ (delAt es i) (fs.eraseIdx i)
  | [], [], _, i => by cases i <;> trivial
  | [], _ :: _, h, _ => h.elim
  | (_, _, _) :: _, [], h, _ => h.elim
  | (_, _, _) :: _, f :: _, h, 0 => h.2.2.2
  | (_, _, _) :: _, _ :: _, h, i + 1 => ⟨h.1, h.2.1, h.2.2.1, EntsR.del h.2.2.2 i⟩

theorem natsEq_bytes {l m : List Nat} (h : natsEq l m = true) : bytes l = bytes m := by
  have := bytes_beq l m
  rw [h] at this
  rw [beq_toListBytes] at this
  have h2 := eq_of_beq this
  apply ByteArray.ext
  apply Array.ext'
  rw [ByteArray.toList_eq, ByteArray.toList_eq] at h2
  exact h2

theorem scalEq_true {x y : AV} {cx cy : Value} (h : scalEq x y = some true) (hx : VR ρ x cx) (hy : VR ρ y cy) : cx = cy := by
  cases x <;> cases y <;> simp [scalEq] at h
  · cases hx; cases hy; rw [h]
  · rename_i j a k b
    cases hk : kindEq j k with
    | false => simp [hk] at h
    | true =>
      simp [hk] at h
      have := kindEq_ok hk; subst this
      rw [intEq_ok] at h
      have := eq_of_beq h; subst this
      cases hx; cases hy; rfl
  · cases hx; cases hy; rw [natsEq_bytes h]

theorem cellsEq_true : ∀ {ks : List CK} {l m : List AV} {xs ys : List Value}, cellsEq ks l m = some true → VRL ρ l xs → VRL ρ m ys → xs = ys
  | [], [], [], _, _, _, .nil, .nil => rfl
  | [], _ :: _, [], _, _, h, _, _ => by simp [cellsEq] at h
  | [], _, _ :: _, _, _, h, _, _ => by simp [cellsEq] at h
  | _ :: _, [], _, _, _, h, _, _ => by simp [cellsEq] at h
  | _ :: _, _ :: _, [], _, _, h, _, _ => by simp [cellsEq] at h
  | c :: cs, x :: l, y :: m, _, _, h, .cons _ cx _ xs hx hxs, .cons _ cy _ ys hy hys => by
    simp only [cellsEq] at h
    cases hc : (c.has x && c.has y) with
    | false => simp [hc] at h
    | true =>
      simp only [hc] at h
      cases hs : scalEq x y with
      | none => simp [hs] at h
      | some r =>
        simp only [hs] at h
        cases r with
        | false => simp only at h; split at h <;> simp at h
        | true => rw [scalEq_true hs hx hy, cellsEq_true h hxs hys]

theorem bits_scal {c : CK} {x : AV} {cx : Value} (h : c.has x = true) (hx : VR ρ x cx) (n : Nat) : Instr.sameBits n cx cx = true := by
  cases c <;> cases x <;> simp [CK.has] at h <;> (cases hx; cases n <;> simp [Instr.sameBits, bytes_beq])
  all_goals (rw [natsEq_ok]; simp)

theorem haveAll_bits : ∀ {ks : List CK} {l : List AV} {xs : List Value}, cellsEq.haveAll ks l = true → VRL ρ l xs → ∀ x, x ∈ xs → ∀ n, Instr.sameBits n x x = true
  | [], [], _, _, .nil, x, hm, _ => by cases hm
  | [], _ :: _, _, h, _, _, _, _ => by simp [cellsEq.haveAll] at h
  | _ :: _, [], _, h, _, _, _, _ => by simp [cellsEq.haveAll] at h
  | c :: cs, y :: l, _, h, .cons _ cy _ ys hy hys, x, hm, n => by
    simp only [cellsEq.haveAll] at h
    cases hc : c.has y with
    | false => simp [hc] at h
    | true =>
      simp only [hc] at h
      rcases List.mem_cons.1 hm with rfl | hm
      · exact bits_scal hc hy n
      · exact haveAll_bits h hys x hm n

theorem key_same {kt : Nat} {k k' : AV} {x y : Value} (h : valEq E kt k k' = some true) (hp : keyPlain E kt k = true) (hx : VR ρ k x) (hy : VR ρ k' y) : x = y := by
  unfold valEq at h
  unfold keyPlain at hp
  cases et : E.ti kt with
  | none => simp [et] at h
  | some ti =>
    obtain ⟨u, size, isAgg, zero, bts⟩ := ti
    simp only [et] at h hp
    cases k <;> simp only [reduceCtorEq] at hp
    case bool b =>
      cases u <;> simp only [reduceCtorEq] at hp
      simp only at h
      cases k' <;> simp [boolEq] at h
      cases hx; cases hy; rw [h]
    case int j a =>
      cases u <;> simp only [reduceCtorEq] at hp
      simp only at h
      cases k' <;> simp [intsEq] at h
      exact scalEq_true (x := .int j a) (by simpa [scalEq] using h) hx hy
    case str s =>
      cases u <;> simp only [reduceCtorEq] at hp
      simp only at h
      cases k' <;> simp [strsEq] at h
      cases hx; cases hy; rw [natsEq_bytes h]
    case agg l =>
      have key : aggEq E kt (.agg l) k' = some true → x = y := by
        intro h
        cases k' <;> simp [aggEq] at h
        cases eq : E.eqT kt with
        | none => simp [eq] at h
        | some ks =>
          simp [eq] at h
          cases hx with
          | agg _ _ hx => cases hy with
            | agg _ _ hy => rw [cellsEq_true h hx hy]
      cases u <;> simp only [boolEq, intsEq, strsEq, nilEq, nilMapEq, nilFuncEq, ifaceEq, reduceCtorEq] at h <;> first
        | exact key h
        | (exfalso; revert h; cases k' <;> simp; done)
        | (exfalso; split at h <;> revert h <;> cases k' <;> simp [ptrEq]; done)
        | skip

theorem key_bits {kt : Nat} {k : AV} {x : Value} (hp : keyPlain E kt k = true) (hx : VR ρ k x) : (Instr.keyThatStays x x).run P w = .ok x w := by
  have : Instr.sameBits (9999 + 1) x x = true := by
    unfold keyPlain at hp
    cases k <;> simp only [reduceCtorEq] at hp
    case bool => cases hx; simp [Instr.sameBits]
    case int => cases hx; simp [Instr.sameBits]
    case str => cases hx; simp [Instr.sameBits, bytes_beq, natsEq_ok]
    case agg l =>
      cases eq : E.eqT kt with
      | none => simp [eq] at hp
      | some ks =>
        simp only [eq] at hp
        cases hx with
        | agg _ xs hx =>
          have := haveAll_bits hp hx
          simp only [Instr.sameBits, beq_self_eq_true, Bool.true_and]
          rw [List.all_eq_true]
          rintro ⟨p, q⟩ hm
          have h2 : p = q ∧ p ∈ xs := by
            have hm' : (p, q) ∈ xs.zip xs := by simpa using hm
            obtain ⟨n, hn⟩ := List.mem_iff_getElem?.1 hm'
            rw [List.getElem?_zip_eq_some] at hn
            exact ⟨by have := hn.1.symm.trans hn.2; simpa using this, List.mem_iff_getElem?.2 ⟨n, hn.1⟩⟩
          obtain ⟨rfl, h3⟩ := h2
          exact this p h3 9999
  simp [Instr.keyThatStays, this]

theorem key_check (hE : EnvOK P E B) (hQ : EqOK P E) {kt : Nat} {k : AV} {x : Value} {e : Bool} (hp : keyPlain E kt k = true) (hx : VR ρ k x) : (Instr.checkKey e 10000 kt x).run P w = .ok () w := by
  have hkey := @hQ.key
  obtain ⟨n, hn⟩ : ∃ n, n = 9999 := ⟨_, rfl⟩
  show (Instr.checkKey e (9999 + 1) kt x).run P w = _
  rw [show (10000 : Nat) = 9999 + 1 from rfl] at hkey
  rw [← hn] at hkey ⊢
  unfold keyPlain at hp
  cases k <;> simp only [reduceCtorEq] at hp
  case agg l =>
    cases eq : E.eqT kt with
    | none => simp [eq] at hp
    | some ks =>
      simp only [eq] at hp
      cases hx with
      | agg _ xs hx => exact hkey kt ks l e w ρ xs eq hp hx
  all_goals
    split at hp
    · rename_i et
      obtain ⟨d, hd, hu, _⟩ := (hE.ti kt _ et).underlying
      cases hu
      cases hx
      simp [Instr.checkKey, hd]
    · cases hp

def Found (ρ : Ren) (es : List (AV × AV × Nat)) (fs : List MapEntry) (x : Value) (i : Nat) : Option (Nat × AV × Nat) → Option (Nat × Value) → Prop
  | none, none => True
  | some (j, v, _), some (j', u) => j = j' ∧ VR ρ v u ∧ ∃ n e, j = i + n ∧ fs[n]? = some e ∧ e.key = x
  | _, _ => False

theorem sameNow_ok {kt : Nat} {d : TypeDesc} {x y : Value} {b : Bool} (hd : ∀ w, (underlying kt).run P w = .ok d w) (h : Instr.sameNow d x y = some b) : (Op.equal kt x y).run P w = .ok b w := by
  show (Op.equalIn (9999 + 1) kt x y).run P w = _
  generalize 9999 = n
  unfold Op.equalIn
  cases d <;> cases x <;> cases y <;> simp [Instr.sameNow] at h <;> simp [hd, h]

theorem find_ok (hE : EnvOK P E B) (hQ : EqOK P E) {kt : Nat} {k : AV} {x : Value} {d : TypeDesc} (hd : ∀ w, (underlying kt).run P w = .ok d w) (hp : keyPlain E kt k = true) (hx : VR ρ k x) :
    ∀ {es : List (AV × AV × Nat)} {fs : List MapEntry} {i : Nat} {r : Option (Nat × AV × Nat)}, keyFind E kt k es i = some r → EntsR ρ es fs →
      ∃ r', Found ρ es fs x i r r' ∧ (Instr.findAsking kt x fs i).run P w = .ok r' w ∧ ∀ q, Instr.findNow d x fs i = some q → q = r'
  | [], [], i, r, h, _ => by
    simp [keyFind] at h; subst h
    exact ⟨none, trivial, by simp [Instr.findAsking], by simp [Instr.findNow]⟩
  | [], _ :: _, _, _, _, he => he.elim
  | (_, _, _) :: _, [], _, _, _, he => he.elim
  | (k', v, b) :: es, f :: fs, i, r, h, he => by
    simp only [keyFind] at h
    cases ev : valEq E kt k k' with
    | none => simp [ev] at h
    | some q =>
      have heq := valEq_ok (w := w) hE hQ ev hx he.1
      have hnow : ∀ q', Instr.sameNow d x f.key = some q' → q' = q := fun q' e => by
        have := sameNow_ok (w := w) hd e
        rw [heq] at this
        simpa using this.symm
      cases q with
      | true =>
        simp [ev] at h; subst h
        refine ⟨some (i, f.val), ⟨rfl, he.2.1, 0, f, rfl, rfl, (key_same ev hp hx he.1).symm⟩, by simp [Instr.findAsking, heq], fun q e => ?_⟩
        simp only [Instr.findNow] at e
        split at e
        · simp at e; exact e.symm
        · rename_i e2; have := hnow _ e2; cases this
        · cases e
      | false =>
        simp only [ev] at h
        obtain ⟨r', h1, h2, h3⟩ := find_ok hE hQ hd hp hx h he.2.2.2
        refine ⟨r', ?_, by simp [Instr.findAsking, heq, h2], fun q e => ?_⟩
        · revert h1
          cases r <;> cases r' <;> simp only [Found] <;> (try exact id)
          rintro ⟨a, b, n, e, c1, c2, c3⟩
          exact ⟨a, b, n + 1, e, by omega, by simpa using c2, c3⟩
        · simp only [Instr.findNow] at e
          split at e
          · rename_i e2; have := hnow _ e2; cases this
          · exact h3 q e
          · cases e

theorem findKey_ok (hE : EnvOK P E B) (hQ : EqOK P E) {kt : Nat} {k : AV} {x : Value} {es : List (AV × AV × Nat)} {fs : List MapEntry} {r : Option (Nat × AV × Nat)}
    (hp : keyPlain E kt k = true) (hx : VR ρ k x) (h : keyFind E kt k es 0 = some r) (he : EntsR ρ es fs) :
    ∃ r', Found ρ es fs x 0 r r' ∧ (Instr.findKey kt x fs).run P w = .ok r' w := by
  have hu : ∃ d, ∀ w, (underlying kt).run P w = .ok d w := by
    unfold keyPlain at hp
    cases k <;> simp only [reduceCtorEq] at hp
    case agg l =>
      cases eq : E.eqT kt with
      | none => simp [eq] at hp
      | some ks =>
        obtain ⟨d, hd⟩ := hQ.und kt ks eq
        exact ⟨d, fun w => by simp [Go.underlying, hd]⟩
    all_goals
      split at hp
      · rename_i e
        obtain ⟨d, hd, _⟩ := (hE.ti kt _ e).underlying
        exact ⟨d, hd⟩
      · cases hp
  obtain ⟨d, hd⟩ := hu
  obtain ⟨r', h1, h2, h3⟩ := find_ok (w := w) hE hQ hd hp hx h he
  refine ⟨r', h1, ?_⟩
  simp only [Instr.findKey, Sem.run_bind, hd, Result.andThen_ok]
  cases e : Instr.findNow d x fs 0 with
  | some q => simp [h3 q e]
  | none => simp only [h2]

theorem map_at {g : Nat} {es : List (AV × AV × Nat)} {clk : Nat} {hp : Tr GO} {nx : Nat} (h : HR E B ρ hp nx w) (hg : hp.get g = some (.map es clk)) :
    ∃ L fs, ρ.loc g 0 = some L ∧ w.heap[L.b]? = some (.map fs clk) ∧ EntsR ρ es fs.toList := (h.obj g _ hg).2.2

theorem map_turn {g : Nat} {es es' : List (AV × AV × Nat)} {fs fs' : Array MapEntry} {clk clk' : Nat} {L : Loc} {st s : St} (h : HRs E B ρ st w) (hg : st.hp.get g = some (.map es clk))
    (hL : ρ.loc g 0 = some L) (hb : w.heap[L.b]? = some (.map fs clk)) (he : EntsR ρ es' fs'.toList) (hs : st.setG g (.map es' clk') = some s) :
    HRs E B ρ s { w with heap := w.heap.setIfInBounds L.b (.map fs' clk') } ∧ Evs ρ st w ρ s { w with heap := w.heap.setIfInBounds L.b (.map fs' clk') } ∧ SameT st s := by
  obtain ⟨h1, h2, h3⟩ := setG_eq hs
  have hlt := (h.obj g _ hg).2.2.in_heap (m := 0) (by simp [memsOf]) hL
  obtain ⟨k1, k2⟩ := HR.turn (w' := { w with heap := w.heap.setIfInBounds L.b (.map fs' clk') }) (o' := .map es' clk') h hg rfl rfl rfl (by simp) (fun r hr hn => by
      simp only [Array.getElem?_setIfInBounds]
      rw [if_neg]
      intro e
      exact hn ⟨_, 0, L, hg, by simp [memsOf], hL, e⟩) (fun m hm => hm) ⟨L, fs', hL, by simp [Array.getElem?_setIfInBounds, hlt], he⟩
  refine ⟨?_, ?_, h1⟩
  · unfold HRs; rw [h2, h3]; exact k1
  · unfold Evs; rw [h2, h3]; exact k2

theorem run_getMap {r : Nat} {o : Obj} (h : w.heap[r]? = some o) (ho : ∀ c ty fz, o ≠ .cells c ty fz := by intros; simp) : (getObj r).run P w = .ok o w := by
  simp only [getObj, Sem.run, h]

theorem run_setMap {r : Nat} {o o' : Obj} (h : w.heap[r]? = some o) (ho : ∀ c ty fz, o ≠ .cells c ty fz := by intros; simp) : (setObj r o').run P w = .ok () { w with heap := w.heap.setIfInBounds r o' } := by
  simp only [setObj, Sem.run, h]

theorem mapPut_ok (hE : EnvOK P E B) (hQ : EqOK P E) {st s : St} {t : Nat} {m k v : AV} {cm ck cv : Value} (h : HRs E B ρ st w) (hp : mapPut E st t m k v = some s) (hm : VR ρ m cm) (hk : VR ρ k ck) (hv : VR ρ v cv) :
    ∃ w', (Instr.mapUpdate t cm ck cv).run P w = .ok () w' ∧ HRs E B ρ s w' ∧ Evs ρ st w ρ s w' ∧ SameT st s := by
  unfold mapPut at hp
  split at hp
  · rename_i kt et z1 z2 z3 z4 g et'
    obtain ⟨d, hd, hu, _⟩ := (hE.ti t _ et').underlying
    cases hu
    split at hp
    · rename_i es clk eg ekp
      rw [getG_eq] at eg
      obtain ⟨L, fs, hL, hb, hes⟩ := map_at h eg
      cases hf : keyFind E kt k es 0 with
      | none => simp [hf] at hp
      | some r =>
        simp only [hf] at hp
        cases hm with
        | map _ L' hL' =>
          rw [hL] at hL'; cases hL'
          obtain ⟨r', hr1, hr2⟩ := findKey_ok (w := w) hE hQ ekp hk hf hes
          have hck := key_check (P := P) (w := w) (e := false) hE hQ ekp hk
          have hst := key_bits (P := P) (w := w) ekp hk
          cases r with
          | none =>
            cases r' with
            | some _ => exact hr1.elim
            | none =>
              obtain ⟨k1, k2, k3⟩ := map_turn (fs' := fs.push { key := ck, val := cv, born := clk }) (clk' := clk + 1) h eg hL hb (by
                rw [snocL_eq, Array.toList_push]; exact hes.snoc hk hv rfl) hp
              exact ⟨_, by simp [Instr.mapUpdate, hd, run_getMap hb, hck, hr2, run_setMap hb], k1, k2, k3⟩
          | some q =>
            obtain ⟨j, v0, b0⟩ := q
            cases r' with
            | none => exact hr1.elim
            | some q' =>
              obtain ⟨j', u⟩ := q'
              obtain ⟨rfl, _, n, e, hn, hfn, hek⟩ := hr1
              simp at hn; subst hn
              simp only at hp
              have hfj : fs[j]? = some e := by simpa using hfn
              obtain ⟨k1, k2, k3⟩ := map_turn (fs' := fs.modify j fun e => { e with key := ck, val := cv }) (clk' := clk) h eg hL hb (by
                rw [setVal_eq, Array.toList_modify]
                exact hes.modify hv j (fun e' he' => by rw [hfn] at he'; cases he'; exact hek)) hp
              exact ⟨_, by simp [Instr.mapUpdate, hd, run_getMap hb, hck, hr2, hfj, hek, hst, run_setMap hb], k1, k2, k3⟩
    · cases hp
  · cases hp

theorem ents_at {st : St} {m : AV} {cm : Value} {es : List (AV × AV × Nat)} (h : HRs E B ρ st w) (he : entsOf st m = some es) (hm : VR ρ m cm) :
    (cm = .map none ∧ es = []) ∨ ∃ b fs clk, cm = .map (some b) ∧ w.heap[b]? = some (.map fs clk) ∧ EntsR ρ es fs.toList := by
  unfold entsOf at he
  split at he
  · cases hm; simp at he; exact .inl ⟨rfl, he⟩
  · rename_i g
    split at he
    · rename_i es' clk eg
      simp at he; subst he
      rw [getG_eq] at eg
      obtain ⟨L, fs, hL, hb, hes⟩ := map_at h eg
      cases hm with
      | map _ L' hL' => rw [hL] at hL'; cases hL'; exact .inr ⟨_, fs, clk, rfl, hb, hes⟩
    · cases he
  · cases he

theorem lookX_ok (hE : EnvOK P E B) (hQ : EqOK P E) (hZ : ZOK P E) {st : St} {t : Nat} {m k v : AV} {cm ck : Value} {ok : Bool} (h : HRs E B ρ st w) (hl : lookX E st t m k ok = some v) (hm : VR ρ m cm) (hk : VR ρ k ck) :
    ∃ x, (Instr.lookup t cm ck ok).run P w = .ok x w ∧ VR ρ v x := by
  unfold lookX at hl
  split at hl
  · rename_i kt et z1 z2 z3 z4 et'
    obtain ⟨d, hd, hu, _⟩ := (hE.ti t _ et').underlying
    cases hu
    cases ekp : keyPlain E kt k with
    | false => simp [ekp] at hl
    | true =>
      simp only [ekp] at hl
      cases he : entsOf st m with
      | none => simp [he] at hl
      | some es =>
        simp only [he] at hl
        cases hf : keyFind E kt k es 0 with
        | none => simp [hf] at hl
        | some r =>
          simp only [hf] at hl
          have hck := fun e => key_check (P := P) (w := w) (e := e) hE hQ ekp hk
          obtain ⟨r', hr1, hz⟩ : ∃ r', (∃ fs : List MapEntry, Found ρ es fs ck 0 r r') ∧ ∀ (x : Value) (b : Bool), (match r' with
              | some (_, v) => (pure (v, true) : Sem (Value × Bool))
              | none => do pure (← zeroValue et, false)).run P w = .ok (x, b) w →
              (Instr.lookup t cm ck ok).run P w = .ok (if ok then .tuple #[x, .bool b] else x) w := by
            rcases ents_at h he hm with ⟨rfl, rfl⟩ | ⟨b, fs, clk, rfl, hb, hes⟩
            · obtain ⟨r', hr1, hr2⟩ := findKey_ok (w := w) (fs := []) hE hQ ekp hk hf trivial
              refine ⟨r', ⟨[], hr1⟩, fun x b hq => ?_⟩
              cases r' with
              | none =>
                cases hzz : (zeroValue et).run P w <;> simp [hzz] at hq
                simp [Instr.lookup, hd, hck, hr2, hzz, hq]
              | some p => simp at hq; simp [Instr.lookup, hd, hck, hr2, hq]
            · obtain ⟨r', hr1, hr2⟩ := findKey_ok (w := w) hE hQ ekp hk hf hes
              refine ⟨r', ⟨_, hr1⟩, fun x b hq => ?_⟩
              cases r' with
              | none =>
                cases hzz : (zeroValue et).run P w <;> simp [hzz] at hq
                simp [Instr.lookup, hd, run_getMap hb, hck, hr2, hzz, hq]
              | some p => simp at hq; simp [Instr.lookup, hd, run_getMap hb, hck, hr2, hq]
          obtain ⟨fs, hr1⟩ := hr1
          cases r with
          | some q =>
            obtain ⟨j, v0, b0⟩ := q
            cases r' with
            | none => exact hr1.elim
            | some q' =>
              obtain ⟨j', u⟩ := q'
              refine ⟨_, hz u true (by simp), ?_⟩
              simp at hl; subst hl
              cases ok with
              | true => exact .tup _ _ (.cons _ _ _ _ hr1.2.1 (.cons _ _ _ _ (.bool true) .nil))
              | false => exact hr1.2.1
          | none =>
            cases r' with
            | some q' => exact hr1.elim
            | none =>
              cases ei : E.ti et with
              | none => simp [ei] at hl
              | some i =>
                simp only [ei] at hl
                cases em : mk i.isAgg i.zero with
                | none => simp [em] at hl
                | some z =>
                  simp [em] at hl; subst hl
                  obtain ⟨zv, hz1, hz2, hz3, hz4⟩ := (hE.ti et i ei).zero
                  have hvz : VR ρ z zv := by
                    have := (mk_ok em (hz2 ρ)).1
                    cases hag : i.isAgg with
                    | true =>
                      obtain ⟨cs, rfl⟩ := hz3 hag
                      simpa [hag, Value.cells] using this
                    | false =>
                      simp only [hag] at this
                      rw [hZ.one et i zv w ei hag (hz1 w)] at this
                      simpa using this
                  refine ⟨_, hz zv false (by simp [hz1]), ?_⟩
                  cases ok with
                  | true => exact .tup _ _ (.cons _ _ _ _ hvz (.cons _ _ _ _ (.bool false) .nil))
                  | false => exact hvz
  · cases hl

end
end Go.Proofs.YtcedalofcekdkaaGreatDoor.Ex
end

section
namespace Go.Proofs.YtcedalofcekdkaaGreatDoor.Ex
section
variable {P : Program} {E : Env} {B : Nat} {ops : Array Oper} {b : Frame} {k : List Item} {cs : List Frame} {i : Nat} {rest : List Nat} {o : Oper}
variable {ρ : Ren} {st st' : St} {a : Act} {w : World} {v : AV}

theorem lookup_ok (hE : EnvOK P E B) (hQ : EqOK P E) (hZ : ZOK P E) {t : Nat} {m x : Operand} {ok : Bool} (H : Here ops i o a) (hi : Inv E B ρ st a w) (ho : o.op = .lookup t m x ok) (self : Self) :
    (hLookup t m x ok E self o.dst st).Holds (OpPost P E B ops b k cs i rest ρ st a w) := by
  unfold hLookup
  split
  · rename_i u1 u2 e1 e2
    unfold finO
    split
    · rename_i r er
      obtain ⟨y, hy, hv⟩ := lookX_ok (P := P) hE hQ hZ hi.hr er (ev_ok hi e1) (ev_ok hi e2)
      exact fin_ran H hi (ran_pure hi (x := y) (by simp [execOp, ho, hy]) hv)
    · trivial
  · trivial

theorem finU_ok (H : Here ops i o a) (hi : Inv E B ρ st a w) {r : Option St} (hr : ∀ s, r = some s → Ran P E B ρ st a w o s (.tup [])) :
    (finU o.dst r).Holds (OpPost P E B ops b k cs i rest ρ st a w) := by
  cases r with
  | none => trivial
  | some p => exact fin_ran H hi (hr p rfl)

theorem mapPut_op (hE : EnvOK P E B) (hQ : EqOK P E) {t : Nat} {m x y : Operand} (H : Here ops i o a) (hi : Inv E B ρ st a w) (ho : o.op = .mapUpdate t m x y ∨ o.op = .insert t m x y) (self : Self) :
    (hMapPut t m x y E self o.dst st).Holds (OpPost P E B ops b k cs i rest ρ st a w) := by
  unfold hMapPut
  split
  · rename_i u1 u2 u3 e1 e2 e3
    refine finU_ok H hi fun s es => ?_
    obtain ⟨w', hrun, h1, h2, h3⟩ := mapPut_ok (P := P) hE hQ hi.hr es (ev_ok hi e1) (ev_ok hi e2) (ev_ok hi e3)
    refine ⟨undef, w', ρ, .skip, ?_, .inr ⟨rfl, rfl⟩, .tup _ _ .nil, h1, h2, h3⟩
    rcases ho with ho | ho <;> simp [execOp, ho, hrun]
  · trivial

theorem iter_ok (H : Here ops i o a) (hi : Inv E B ρ st a w) {mp : Option Nat} {since clk : Nat} {r : Option Nat}
    (hr : match mp with | none => r = none | some h => ∃ M, ρ.loc h 0 = some M ∧ r = some M.b)
    (hrun : (execOp a.eval o).run P w = .ok (.value (.pointer (some ⟨w.heap.size, 0, none⟩))) { w with heap := w.heap.push (.mapIter r since #[] clk) })
    {g : Nat} {s : St} (e : st.newG (.iterM mp since [] clk) = some (g, s)) : (fin s o.dst (.ptr g 0 0)).Holds (OpPost P E B ops b k cs i rest ρ st a w) := by
  obtain ⟨rfl, hs, hhp, hnx⟩ := newG_eq e
  obtain ⟨h1, h2⟩ := HR.new hi.hr (.mapIter r since #[] clk) (.iterM mp since [] clk) 0 0 rfl (fun w' hw' hle => ⟨_, r, Ren.with_at _ _ _ _, rfl, hw', by
    cases mp with
    | none => exact hr
    | some h => obtain ⟨M, hM, e⟩ := hr; exact ⟨M, hle.loc _ _ _ hM, e⟩⟩)
  refine fin_ran H hi ⟨_, _, ρ.with st.nx 0 ⟨w.heap.size, 0, 0⟩, _, hrun, .inl rfl, by simpa using VR.ptr (ρ := ρ.with st.nx 0 ⟨w.heap.size, 0, 0⟩) st.nx 0 0 _ (Ren.with_at _ _ _ _), ?_, ?_, hs⟩
  · unfold HRs; rw [hhp, hnx]; exact h1
  · unfold Evs; rw [hhp, hnx]; exact h2

theorem range_ok (hE : EnvOK P E B) {t : Nat} {x : Operand} (H : Here ops i o a) (hi : Inv E B ρ st a w) (ho : o.op = .range t x) (self : Self) :
    (hRange t x E self o.dst st).Holds (OpPost P E B ops b k cs i rest ρ st a w) := by
  unfold hRange
  split
  · rename_i kt et z1 z2 z3 z4 e1 e2
    have hx := ev_ok hi e2
    obtain ⟨d, hd, hu, _⟩ := (hE.ti t _ e1).underlying
    cases hu
    generalize hax : a.eval x = ax at hx
    cases hx
    split
    · rename_i g s e
      exact iter_ok (mp := none) H hi (r := none) rfl (by simp [execOp, ho, Instr.range, hd, hax]) e
    · trivial
  · rename_i kt et z1 z2 z3 z4 g e1 e2
    have hx := ev_ok hi e2
    obtain ⟨d, hd, hu, _⟩ := (hE.ti t _ e1).underlying
    cases hu
    split
    · rename_i es clk eg
      rw [getG_eq] at eg
      obtain ⟨L, fs, hL, hb, hes⟩ := map_at hi.hr eg
      generalize hax : a.eval x = ax at hx
      cases hx with
      | map _ L' hL' =>
        rw [hL] at hL'; cases hL'
        split
        · rename_i g' s e
          exact iter_ok (mp := some g) H hi (r := some L.b) ⟨L, hL, rfl⟩ (by simp [execOp, ho, Instr.range, hd, hax, run_getMap hb]) e
        · trivial
    · trivial
  · trivial

theorem bornIn_ok (b : Nat) : ∀ l : List Nat, bornIn b l = l.contains b
  | [] => rfl
  | x :: l => by
    simp only [bornIn, List.contains_cons, bornIn_ok b l]
    cases h : Nat.beq b x with
    | true => have := Nat.eq_of_beq_eq_true h; subst this; simp
    | false => have : b ≠ x := fun e => by rw [e] at h; simp at h
               simp [this]

theorem leftOf_ok (seen : List Nat) : ∀ {es : List (AV × AV × Nat)} {fs : List MapEntry}, EntsR ρ es fs → EntsR ρ (leftOf seen es) (fs.filter fun e => !seen.contains e.born)
  | [], [], _ => trivial
  | [], _ :: _, h => h.elim
  | (_, _, _) :: _, [], h => h.elim
  | (k, v, b) :: es, f :: fs, h => by
    have ih := leftOf_ok seen h.2.2.2
    simp only [leftOf, bornIn_ok, List.filter_cons, h.2.2.1]
    cases hc : seen.contains b with
    | true => simpa using ih
    | false =>
      simp only [Bool.not_false, if_true]
      revert ih
      cases leftOf seen es with
      | nil => exact fun ih => ⟨h.1, h.2.1, h.2.2.1, ih⟩
      | cons e r => exact fun ih => ⟨h.1, h.2.1, h.2.2.1, ih⟩

theorem allOld_ok (since : Nat) : ∀ {es : List (AV × AV × Nat)} {fs : List MapEntry}, EntsR ρ es fs → allOld since es = true → ∀ e, e ∈ fs → e.born < since
  | [], [], _, _, _, hm => by cases hm
  | [], _ :: _, h, _, _, _ => h.elim
  | (_, _, _) :: _, [], h, _, _, _ => h.elim
  | (k, v, b) :: es, f :: fs, h, ho, e, hm => by
    simp only [allOld] at ho
    cases hc : Nat.blt b since with
    | false => simp [hc] at ho
    | true =>
      simp only [hc] at ho
      have hb : b < since := by simp [Nat.blt] at hc; omega
      rcases List.mem_cons.1 hm with rfl | hm
      · rw [h.2.2.1]; exact hb
      · exact allOld_ok since h.2.2.2 ho e hm

theorem anyNew_ok (last : Nat) : ∀ {es : List (AV × AV × Nat)} {fs : List MapEntry}, EntsR ρ es fs → anyNew last es = true → fs.all (fun e => decide (e.born ≥ last)) = false
  | [], [], _, h => by simp [anyNew] at h
  | [], _ :: _, h, _ => h.elim
  | (_, _, _) :: _, [], h, _ => h.elim
  | (k, v, b) :: es, f :: fs, h, ho => by
    simp only [anyNew] at ho
    cases hc : Nat.blt b last with
    | true =>
      have hb : b < last := by simp [Nat.blt] at hc; omega
      simp only [List.all_cons, h.2.2.1]
      rw [decide_eq_false (by omega)]; rfl
    | false =>
      simp only [hc] at ho
      have := anyNew_ok last h.2.2.2 ho
      simp only [List.all_cons, this, Bool.and_false]

theorem run_nextOf (n : Nat) (hn : 0 < n) : ∃ j d, j < n ∧ (choose (.mapNext n)).run P w = .ok j { w with drawn := d } := by
  by_cases h : n ≤ 1
  · exact ⟨0, w.drawn, hn, by simp [choose, Sem.run, Question.forced, h]⟩
  · exact ⟨(Question.mapNext n).cut (w.tape w.drawn (.mapNext n)), w.drawn + 1, by simp [Question.cut]; exact Nat.mod_lt _ hn, by simp [choose, Sem.run, Question.forced, h]⟩

theorem branch_ok {Q : Unit → St → Prop} {d : Option Nat} {r g since clk : Nat} {seen : List Nat} {s : St} : ∀ {l : List (AV × AV × Nat)} (j : Nat) {e : AV × AV × Nat}, l[j]? = some e →
    (nextX.pick d r g since seen clk s e).Holds Q → (nextX.branch d r g since seen clk s l).Holds Q
  | [], j, e, h, _ => by simp at h
  | [x], 0, e, h, hQ => by simp at h; subst h; exact hQ
  | [x], j + 1, e, h, _ => by simp at h
  | x :: y :: l, 0, e, h, hQ => by simp at h; subst h; exact .inl hQ
  | x :: y :: l, j + 1, e, h, hQ => .inr (branch_ok j (by simpa using h) hQ)

theorem EntsR.at : ∀ {es : List (AV × AV × Nat)} {fs : List MapEntry}, EntsR ρ es fs → ∀ {j : Nat} {f : MapEntry}, fs[j]? = some f → ∃ k v, es[j]? = some (k, v, f.born) ∧ VR ρ k f.key ∧ VR ρ v f.val
  | [], [], _, j, f, h => by simp at h
  | [], _ :: _, h, _, _, _ => h.elim
  | (_, _, _) :: _, [], h, _, _, _ => h.elim
  | (k, v, b) :: es, f' :: fs, h, 0, f, hj => by simp at hj; subst hj; exact ⟨k, v, by rw [h.2.2.1]; rfl, h.1, h.2.1⟩
  | (_, _, _) :: es, _ :: fs, h, j + 1, f, hj => by simpa using EntsR.at h.2.2.2 (j := j) (by simpa using hj)

theorem run_next {since last clk : Nat} {seen : List Nat} {es : List (AV × AV × Nat)} {fs : Array MapEntry} {L M : Loc} {ty : Nat} (hb : w.heap[L.b]? = some (.mapIter (some M.b) since seen.toArray last))
    (hm : w.heap[M.b]? = some (.map fs clk)) (he : EntsR ρ es fs.toList) (hn : es = [] ∨ anyNew last es = true) (ho : allOld since (leftOf seen es) = true) :
    (leftOf seen es = [] → (Instr.next (.pointer (some ⟨L.b, 0, none⟩)) false ty).run P w = .ok (.tuple #[.bool false]) w) ∧
    (leftOf seen es ≠ [] → ∃ (j d : Nat) (k v : AV) (f : MapEntry), (leftOf seen es)[j]? = some (k, v, f.born) ∧ VR ρ k f.key ∧ VR ρ v f.val ∧
      (Instr.next (.pointer (some ⟨L.b, 0, none⟩)) false ty).run P w = .ok (.tuple #[.bool true, f.key, f.val]) { w with heap := w.heap.setIfInBounds L.b (.mapIter (some M.b) since (seen.toArray.push f.born) clk), drawn := d }) := by
  have hleft := leftOf_ok (ρ := ρ) seen he
  have hguard : (!seen.toArray.isEmpty && !fs.isEmpty && fs.all (fun e => decide (e.born ≥ last))) = false := by
    rcases hn with rfl | hn
    · cases hfs : fs.toList with
      | nil =>
        have : fs = #[] := by apply Array.ext'; simpa using hfs
        subst this; simp
      | cons x l => rw [hfs] at he; exact he.elim
    · have := anyNew_ok last he hn
      rw [← Array.all_toList, this]; simp
  have hold : (fs.filter fun e => !seen.toArray.contains e.born).filter (fun e => decide (e.born < since)) = fs.filter fun e => !seen.toArray.contains e.born := by
    rw [Array.filter_eq_self]
    intro e hme
    have h2 : e ∈ fs.toList.filter fun e => !seen.contains e.born := by
      rw [Array.mem_filter] at hme
      rw [List.mem_filter]
      exact ⟨by simpa using hme.1, by simpa using hme.2⟩
    simpa using allOld_ok since hleft ho e h2
  have hnew : (fs.filter fun e => !seen.toArray.contains e.born).filter (fun e => decide (e.born ≥ since)) = #[] := by
    rw [Array.filter_eq_empty_iff]
    intro e hme
    have h2 : e ∈ fs.toList.filter fun e => !seen.contains e.born := by
      rw [Array.mem_filter] at hme
      rw [List.mem_filter]
      exact ⟨by simpa using hme.1, by simpa using hme.2⟩
    have := allOld_ok since hleft ho e h2
    simp; omega
  have htl : (fs.filter fun e => !seen.toArray.contains e.born).toList = fs.toList.filter fun e => !seen.contains e.born := by simp
  rw [← htl] at hleft
  simp only [Instr.next, getObj, Sem.run_bind, Sem.run, hb, hm, Result.andThen, hguard, Bool.false_eq_true, if_false]
  generalize (fs.filter fun e => !seen.toArray.contains e.born) = left at hold hnew hleft ⊢
  simp only [hold, hnew, Array.append_empty]
  have hlen := hleft.length
  refine ⟨fun h0 => ?_, fun h0 => ?_⟩
  · rw [h0] at hlen
    have : left = #[] := Array.eq_empty_of_size_eq_zero (by simpa using hlen.symm)
    subst this
    simp [choose, Sem.run, Question.forced]
  · have hpos : 0 < left.size := by
      rcases Nat.eq_zero_or_pos left.size with h | h
      · exact absurd (List.eq_nil_of_length_eq_zero (by rw [hlen]; simpa using h)) h0
      · exact h
    have hne : left.isEmpty = false := by
      rw [Array.isEmpty_eq_false_iff]; intro e; rw [e] at hpos; simp at hpos
    obtain ⟨j, d, hj, hrun⟩ := run_nextOf (P := P) (w := w) left.size hpos
    obtain ⟨k, v, h1, h2, h3⟩ := hleft.at (j := j) (f := left[j]) (by simp [hj])
    refine ⟨j, d, k, v, left[j], h1, h2, h3, ?_⟩
    simp only [hne, Bool.false_eq_true, if_false, Array.empty_append, Array.size_map, hrun, Array.getElem?_map, Array.getElem?_eq_getElem hj, Option.map_some, Sem.run_bind, Result.andThen]
    have hb' : ({ w with drawn := d } : World).heap[L.b]? = some (.mapIter (some M.b) since seen.toArray last) := hb
    simp only [run_setMap hb', Sem.run_pure]

theorem next_op {it : Operand} {s : Bool} (H : Here ops i o a) (hi : Inv E B ρ st a w) (ho : o.op = .next it s) (E' : Env) (self : Self) :
    (hNext it s E' self o.dst st).Holds (OpPost P E B ops b k cs i rest ρ st a w) := by
  unfold hNext
  split
  · rename_i u e
    have hx := ev_ok hi e
    unfold nextX
    split
    · rename_i r
      have over : ∀ {L : Loc}, ρ.loc r 0 = some L → L.s = 0 → (Instr.next (.pointer (some ⟨L.b, 0, none⟩)) false o.type).run P w = .ok (.tuple #[.bool false]) w →
          (fin st o.dst (.tup [.bool false])).Holds (OpPost P E B ops b k cs i rest ρ st a w) := by
        intro L hL h0 hrun
        generalize hax : a.eval it = ax at hx
        cases hx with
        | ptr _ _ _ L' hL' =>
          rw [hL] at hL'; cases hL'
          rw [h0] at hax
          exact fin_ran H hi (ran_pure hi (x := .tuple #[.bool false]) (by simp [execOp, ho, hax, hrun]) (.tup _ _ (.cons _ _ _ _ (.bool _) .nil)))
      split
      · rename_i since seen last eg
        rw [getG_eq] at eg
        obtain ⟨L, q, hL, h0, hb, hq⟩ := (hi.hr.obj r _ eg).2.2
        simp only at hq; subst hq
        exact over hL h0 (by simp [Instr.next, run_getMap hb])
      · rename_i g since seen last eg
        rw [getG_eq] at eg
        obtain ⟨L, q, hL, h0, hb, M, hM, hq⟩ := (hi.hr.obj r _ eg).2.2
        subst hq
        split
        · rename_i es clk em
          rw [getG_eq] at em
          obtain ⟨M', fs, hM', hbm, hes⟩ := map_at hi.hr em
          rw [hM] at hM'; cases hM'
          split
          · trivial
          · split
            · rename_i hl
              have hn := fun h => (run_next (P := P) (ty := o.type) hb hbm hes h (by rw [hl]; rfl)).1 hl
              split
              · exact over hL h0 (hn (.inl rfl))
              · split
                · rename_i ha
                  exact over hL h0 (hn (.inr ha))
                · trivial
            · rename_i hl
              split
              · rename_i hc
                simp only [Bool.and_eq_true] at hc
                have hne : leftOf seen es ≠ [] := hl
                obtain ⟨j, d, kk, vv, f, g1, g2, g3, g4⟩ := (run_next (P := P) (ty := o.type) hb hbm hes (.inr hc.2) hc.1).2 hne
                refine branch_ok j g1 ?_
                unfold nextX.pick
                split
                · rename_i s es'
                  obtain ⟨c1, c2, c3⟩ := setG_eq es'
                  have hlt := (hi.hr.obj r _ eg).2.2.in_heap (m := 0) (by simp [memsOf]) hL
                  obtain ⟨k1, k2⟩ := HR.turn (w' := { w with heap := w.heap.setIfInBounds L.b (.mapIter (some M.b) since (seen.toArray.push f.born) clk), drawn := d }) (o' := .iterM (some g) since (snocL seen f.born) clk) (HR.drawn hi.hr d) eg rfl rfl rfl (by simp) (fun r' hr hn => by
                      simp only [Array.getElem?_setIfInBounds]
                      rw [if_neg]
                      intro e
                      exact hn ⟨_, 0, L, eg, by simp [memsOf], hL, e⟩) (fun m hm => hm) ⟨L, some M.b, hL, h0, by simp [Array.getElem?_setIfInBounds, hlt, snocL_eq], M, hM, rfl⟩
                  generalize hax : a.eval it = ax at hx
                  cases hx with
                  | ptr _ _ _ L' hL' =>
                    rw [hL] at hL'; cases hL'
                    rw [h0] at hax
                    refine fin_ran H hi ⟨_, { w with heap := w.heap.setIfInBounds L.b (.mapIter (some M.b) since (seen.toArray.push f.born) clk), drawn := d }, ρ, _, by simp only [execOp, ho, hax, Sem.run_bind, g4, Result.andThen_ok, Sem.run_pure], .inl rfl, .tup _ _ (.cons _ _ _ _ (.bool true) (.cons _ _ _ _ g2 (.cons _ _ _ _ g3 .nil))), ?_, ?_, c1⟩
                    · unfold HRs; rw [c2, c3]; exact k1
                    · unfold Evs; rw [c2, c3]; exact (Ev.drawn ρ st.hp st.nx w d).trans k2
                · trivial
              · trivial
        · trivial
      · trivial
    · trivial
  · trivial

end
end Go.Proofs.YtcedalofcekdkaaGreatDoor.Ex
end

section
namespace Go.Proofs.YtcedalofcekdkaaGreatDoor.Ex

structure RowOK (P : Program) (E : Env) : Prop where
  row : ∀ ty u c off n, E.byteAt ty = true → E.byteAt u = true → off + n ≤ c → liesAt P P.depth ty c off u n = true

section
variable {P : Program} {E : Env} {B : Nat} {ops : Array Oper} {b : Frame} {k : List Item} {cs : List Frame} {i : Nat} {rest : List Nat} {o : Oper}
variable {ρ : Ren} {st st' : St} {a : Act} {w : World} {v : AV}

def BRan (P : Program) (E : Env) (B : Nat) (ρ : Ren) (st : St) (w : World) (s : Sem Value) (st' : St) (v : AV) : Prop :=
  ∃ y w' ρ', s.run P w = .ok y w' ∧ VR ρ' v y ∧ HRs E B ρ' st' w' ∧ Evs ρ st w ρ' st' w' ∧ SameT st st'

theorem bran_pure {s : Sem Value} {y : Value} (h : HRs E B ρ st w) (hr : s.run P w = .ok y w) (hv : VR ρ v y) : BRan P E B ρ st w s st v :=
  ⟨y, w, ρ, hr, hv, h, Ev.refl _ _ _ _, .refl _⟩

theorem lenX_ok (hE : EnvOK P E B) {t : Nat} {x : AV} {cx : Value} {ts : Array TypeId} {T : TypeId} {args : Array Value} (h : HRs E B ρ st w) (ht : ts[0]? = some t) (ha : args[0]? = some cx) (hx : VR ρ x cx) (hl : lenX E st t x = some v) :
    BRan P E B ρ st w (Builtin.len_ ts T args) st v := by
  unfold lenX at hl
  split at hl
  · rename_i n e z1 z2 z3 z4 et
    obtain ⟨d, hd, hu, _⟩ := (hE.ti t _ et).underlying
    cases hu
    simp at hl; subst hl
    exact bran_pure h (y := .int .i64 n) (by simp [Builtin.len_, ht, ha, hd, goInt]) (.int _ _)
  · rename_i z1 z2 z3 z4 s et
    obtain ⟨d, hd, hu, _⟩ := (hE.ti t _ et).underlying
    cases hu; cases hx
    simp at hl; subst hl
    exact bran_pure h (y := .int .i64 s.length) (by simp [Builtin.len_, ht, ha, hd, goInt]) (by rw [lenL_eq]; exact .int _ _)
  · rename_i e z1 z2 z3 z4 et
    obtain ⟨d, hd, hu, _⟩ := (hE.ti t _ et).underlying
    cases hu; cases hx
    simp at hl; subst hl
    exact bran_pure h (y := .int .i64 0) (by simp [Builtin.len_, ht, ha, hd, goInt]) (.int _ _)
  · rename_i e z1 z2 z3 z4 g m off n c et
    obtain ⟨d, hd, hu, _⟩ := (hE.ti t _ et).underlying
    cases hu; cases hx
    simp at hl; subst hl
    exact bran_pure h (y := .int .i64 n) (by simp [Builtin.len_, ht, ha, hd, goInt]) (.int _ _)
  · rename_i e z1 z2 z3 z4 g m off n c et
    obtain ⟨d, hd, hu, _⟩ := (hE.ti t _ et).underlying
    cases hu; cases hx
    simp at hl; subst hl
    exact bran_pure h (y := .int .i64 n) (by simp [Builtin.len_, ht, ha, hd, goInt]) (.int _ _)
  · rename_i e z1 z2 z3 z4 g m off n c et
    obtain ⟨d, hd, hu, _⟩ := (hE.ti t _ et).underlying
    cases hu; cases hx
    simp at hl; subst hl
    exact bran_pure h (y := .int .i64 0) (by simp [Builtin.len_, ht, ha, hd, goInt]) (.int _ _)
  · rename_i kt e z1 z2 z3 z4 et
    obtain ⟨d, hd, hu, _⟩ := (hE.ti t _ et).underlying
    cases hu; cases hx
    simp at hl; subst hl
    exact bran_pure h (y := .int .i64 0) (by simp [Builtin.len_, ht, ha, hd, goInt]) (.int _ _)
  · rename_i kt e z1 z2 z3 z4 g et
    obtain ⟨d, hd, hu, _⟩ := (hE.ti t _ et).underlying
    cases hu
    split at hl
    · rename_i es clk eg
      rw [getG_eq] at eg
      obtain ⟨L, fs, hL, hb, hes⟩ := map_at h eg
      cases hx with
      | map _ L' hL' =>
        rw [hL] at hL'; cases hL'
        simp at hl; subst hl
        have hlen := hes.length
        refine bran_pure h (y := .int .i64 fs.size) (by simp [Builtin.len_, ht, ha, hd, goInt, run_getMap hb]) ?_
        rw [lenL_eq, hlen, Array.length_toList]; exact .int _ _
    · cases hl
  · cases hl

theorem capX_ok (hE : EnvOK P E B) {t : Nat} {x : AV} {cx : Value} {ts : Array TypeId} {T : TypeId} {args : Array Value} (h : HRs E B ρ st w) (ht : ts[0]? = some t) (ha : args[0]? = some cx) (hx : VR ρ x cx) (hl : capX E t x = some v) :
    BRan P E B ρ st w (Builtin.cap_ ts T args) st v := by
  unfold capX at hl
  split at hl
  · rename_i e z1 z2 z3 z4 et
    obtain ⟨d, hd, hu, _⟩ := (hE.ti t _ et).underlying
    cases hu; cases hx
    simp at hl; subst hl
    exact bran_pure h (y := .int .i64 0) (by simp [Builtin.cap_, ht, ha, hd, goInt]) (.int _ _)
  · rename_i e z1 z2 z3 z4 g m off n c et
    obtain ⟨d, hd, hu, _⟩ := (hE.ti t _ et).underlying
    cases hu; cases hx
    simp at hl; subst hl
    exact bran_pure h (y := .int .i64 c) (by simp [Builtin.cap_, ht, ha, hd, goInt]) (.int _ _)
  · cases hl

theorem minMaxFrom_ok {isMax : Bool} : ∀ {l : List AV} {xs : List Value} {x : AV} {cx : Value}, VR ρ x cx → VRL ρ l xs → minMaxFrom isMax x l = some v →
    ∃ y, (xs.foldlM (if isMax then Builtin.max2 else Builtin.min2) cx).run P w = .ok y w ∧ VR ρ v y
  | [], _, x, cx, hx, .nil, h => by simp [minMaxFrom] at h; subst h; exact ⟨cx, by simp, hx⟩
  | y :: l, _, x, cx, hx, .cons _ cy _ ys hy hys, h => by
    cases x <;> cases y <;> simp [minMaxFrom] at h
    rename_i k a k' b
    cases hx; cases hy
    obtain ⟨z, hz, hv⟩ := minMaxFrom_ok (cx := .int k (minMax2 isMax a b)) (.int _ _) hys h
    refine ⟨z, ?_, hv⟩
    cases isMax
    · simpa [Builtin.min2, minMax2] using hz
    · simpa [Builtin.max2, minMax2] using hz

theorem minMax_ok {isMax : Bool} {l : List AV} {args : Array Value} {ts : Array TypeId} {T : TypeId} (h : HRs E B ρ st w) (hl : VRL ρ l args.toList) (hm : minMax isMax l = some v) :
    BRan P E B ρ st w (if isMax then Builtin.max_ ts T args else Builtin.min_ ts T args) st v := by
  cases l with
  | nil => simp [minMax] at hm
  | cons x l =>
    generalize he : args.toList = q at hl
    cases hl with
    | cons _ cx _ xs hx hxs =>
      obtain ⟨y, hy, hv⟩ := minMaxFrom_ok (P := P) (w := w) hx hxs hm
      refine bran_pure h (y := y) ?_ hv
      cases isMax
      · simpa [Builtin.min_, he] using hy
      · simpa [Builtin.max_, he] using hy

theorem clearX_ok (hE : EnvOK P E B) {t : Nat} {x : AV} {cx : Value} {ts : Array TypeId} {T : TypeId} {args : Array Value} (h : HRs E B ρ st w) (ht : ts[0]? = some t) (ha : args[0]? = some cx) (hx : VR ρ x cx) (hl : clearX E st t x = some st') :
    BRan P E B ρ st w (Builtin.clear_ ts T args) st' (.tup []) := by
  have rows : ∀ {e : Nat} {ei : TI} {g m off n : Nat} {L : Loc} {c : Nat}, (∀ w, (underlying t).run P w = .ok (.slice e) w) → E.ti e = some ei → ρ.loc g m = some L → cx = .slice (some ⟨L.b, L.s + off, none⟩) n c →
      (match n with | 0 => some st | _ => st.wr E g m off (repL ei.zero n)) = some st' → BRan P E B ρ st w (Builtin.clear_ ts T args) st' (.tup []) := by
    intro e ei g m off n L c hd ee hL hcx hl
    subst hcx
    obtain ⟨zv, hz1, hz2, _, hz4⟩ := (hE.ti e ei ee).zero
    cases n with
    | zero =>
      simp at hl; subst hl
      exact bran_pure h (y := .tuple #[]) (by simp [Builtin.clear_, ht, ha, hd]) (.tup _ _ .nil)
    | succ n =>
      simp only at hl
      have hrep : VRL ρ (repL ei.zero (n + 1)) (Builtin.zeroCells zv.cells (n + 1)).toList := by
        by_cases hp : 0 < zv.cells.size
        · exact repL_ok (hz2 ρ) hp (n + 1)
        · have h0 : zv.cells.size = 0 := by omega
          have h1 := (hz2 ρ).length
          have h2 : (repL ei.zero (n + 1)).length = 0 := by rw [repL_length]; simp at h1; rw [h1, h0]; simp
          have h3 : (Builtin.zeroCells zv.cells (n + 1)).toList = [] := by simp [Builtin.zeroCells, h0]
          rw [List.eq_nil_of_length_eq_zero h2, h3]; exact .nil
      obtain ⟨L', w', hL', hrun, h1, h2, h3⟩ := wr_ok (P := P) h hl hrep
      rw [hL] at hL'; cases hL'
      exact ⟨.tuple #[], w', ρ, by simp [Builtin.clear_, ht, ha, hd, hz1, hrun], .tup _ _ .nil, h1, h2, h3⟩
  unfold clearX at hl
  split at hl
  · rename_i e z1 z2 z3 z4 et
    obtain ⟨d, hd, hu, _⟩ := (hE.ti t _ et).underlying
    cases hu; cases hx
    simp at hl; subst hl
    exact bran_pure h (y := .tuple #[]) (by simp [Builtin.clear_, ht, ha, hd]) (.tup _ _ .nil)
  · rename_i kt e z1 z2 z3 z4 et
    obtain ⟨d, hd, hu, _⟩ := (hE.ti t _ et).underlying
    cases hu; cases hx
    simp at hl; subst hl
    exact bran_pure h (y := .tuple #[]) (by simp [Builtin.clear_, ht, ha, hd]) (.tup _ _ .nil)
  · rename_i kt e z1 z2 z3 z4 g et
    obtain ⟨d, hd, hu, _⟩ := (hE.ti t _ et).underlying
    cases hu
    split at hl
    · rename_i es clk eg
      rw [getG_eq] at eg
      obtain ⟨L, fs, hL, hb, hes⟩ := map_at h eg
      cases hx with
      | map _ L' hL' =>
        rw [hL] at hL'; cases hL'
        obtain ⟨k1, k2, k3⟩ := map_turn (fs' := #[]) (clk' := clk) h eg hL hb (by trivial) hl
        exact ⟨.tuple #[], _, ρ, by simp [Builtin.clear_, ht, ha, hd, run_getMap hb, run_setMap hb], .tup _ _ .nil, k1, k2, k3⟩
    · cases hl
  · rename_i e z1 z2 z3 z4 g m off n c et
    obtain ⟨d, hd, hu, _⟩ := (hE.ti t _ et).underlying
    cases hu
    split at hl
    · rename_i ei ee
      cases hx with
      | sl _ _ _ _ _ L hL => exact rows hd ee hL rfl hl
    · cases hl
  · rename_i e z1 z2 z3 z4 g m off n c et
    obtain ⟨d, hd, hu, _⟩ := (hE.ti t _ et).underlying
    cases hu
    split at hl
    · rename_i ei ee
      cases hx with
      | su _ _ _ _ _ L hL hz hc => exact rows hd ee hL rfl hl
    · cases hl
  · cases hl

end
end Go.Proofs.YtcedalofcekdkaaGreatDoor.Ex
end

section
namespace Go.Proofs.YtcedalofcekdkaaGreatDoor.Ex
section
variable {P : Program} {E : Env} {B : Nat} {ops : Array Oper} {b : Frame} {k : List Item} {cs : List Frame} {i : Nat} {rest : List Nat} {o : Oper}
variable {ρ : Ren} {st st' : St} {a : Act} {w : World} {v : AV}

theorem src_ok {s : AV} {size n sn : Nat} {cx : Value} {vs : List AV} (h : HRs E B ρ st w) (hx : VR ρ s cx) (hn : srcLen s = some sn) (hs : copyX.src E st size s n = some vs) :
    ∃ xs : List Value, (Builtin.firstCells size n cx).run P w = .ok xs.toArray w ∧ VRL ρ vs xs := by
  unfold copyX.src at hs
  split at hs
  · rename_i g m off q c
    cases hx with
    | sl _ _ _ _ _ L hL =>
      obtain ⟨L', c', ty, fz, xs, hL', hb, hv, hlen, hc⟩ := rd_ok h hs
      rw [hL] at hL'; cases hL'
      have := run_loadCells (P := P) hb (L.s + off) xs hc
      rw [hlen] at this
      exact ⟨xs, by simp [Builtin.firstCells, this], hv⟩
  · rename_i g m off q c
    cases hx with
    | su _ _ _ _ _ L hL hz hc0 =>
      obtain ⟨L', c', ty, fz, xs, hL', hb, hv, hlen, hc⟩ := rd_ok h hs
      rw [hL] at hL'; cases hL'
      have := run_loadCells (P := P) hb (L.s + off) xs hc
      rw [hlen] at this
      exact ⟨xs, by simp [Builtin.firstCells, this], hv⟩
  · rename_i l
    cases hx
    obtain ⟨h1, h2⟩ := takeL_eq _ _ _ hs
    subst h1
    refine ⟨((bytes l).data.toList.map fun b => .int .u8 b.toNat).take n, ?_, (byteCells_ok ρ l).take n⟩
    have he : (bytes l).extract 0 n = bytes (l.take n) := by
      have := bytes_extract l 0 n; simpa using this
    simp only [Builtin.firstCells, he, Sem.run_pure]
    congr 1
    apply Array.ext'
    simp [bytes, List.map_take]
  · cases hs

theorem src0 {s : AV} {size sn : Nat} {cx : Value} (hx : VR ρ s cx) (hn : srcLen s = some sn) : (Builtin.lenOf cx).run P w = .ok sn w ∧ (Builtin.firstCells size 0 cx).run P w = .ok #[] w := by
  unfold srcLen at hn
  split at hn <;> simp at hn <;> subst hn <;> cases hx
  · simp [Builtin.lenOf, Builtin.firstCells]
  · simp [Builtin.lenOf, Builtin.firstCells, loadCells, loadCellsFrom]
  · simp [Builtin.lenOf, Builtin.firstCells, loadCells, loadCellsFrom]
  · rename_i l
    refine ⟨by simp [Builtin.lenOf, lenL_eq], ?_⟩
    have he : (bytes l).extract 0 0 = bytes [] := by
      have := bytes_extract l 0 0; simpa using this
    simp [Builtin.firstCells, he, bytes]

theorem copyX_ok (hE : EnvOK P E B) {t : Nat} {d s : AV} {cd cx : Value} {ts : Array TypeId} {T : TypeId} {args : Array Value} (h : HRs E B ρ st w) (ht : ts[0]? = some t) (ha : args[0]? = some cd) (hb : args[1]? = some cx)
    (hd : VR ρ d cd) (hx : VR ρ s cx) (hl : copyX E st t d s = some (v, st')) : BRan P E B ρ st w (Builtin.copy_ ts T args) st' v := by
  unfold copyX at hl
  split at hl
  · rename_i e z1 z2 z3 z4 et
    obtain ⟨dd, hdd, hu, _⟩ := (hE.ti t _ et).underlying
    cases hu
    split at hl
    · rename_i ei ee
      have hsz := (hE.ti e ei ee).sizeOf
      cases hn : srcLen s with
      | none => simp [hn] at hl
      | some sn =>
        simp only [hn] at hl
        obtain ⟨h1, h2⟩ := src0 (P := P) (w := w) (size := ei.size) hx hn
        have body : ∀ {g m off n c : Nat} {L : Loc}, ρ.loc g m = some L → cd = .slice (some ⟨L.b, L.s + off, none⟩) n c → copyX.put E st ei.size s g m off (Nat.min sn n) = some (v, st') → BRan P E B ρ st w (Builtin.copy_ ts T args) st' v := by
          intro g m off n c L hL hcd hp
          subst hcd
          unfold copyX.put at hp
          split at hp
          · rename_i h0
            simp at hp
            obtain ⟨rfl, rfl⟩ := hp
            exact bran_pure h (y := .int .i64 0) (by simp [Builtin.copy_, ht, ha, hb, hdd, h1, h0, hsz, h2, storeCells, goInt]) (.int _ _)
          · split at hp
            · cases hp
            · rename_i vs hs
              split at hp
              · rename_i s' hw
                simp at hp
                obtain ⟨rfl, rfl⟩ := hp
                obtain ⟨xs, g1, g2⟩ := src_ok (P := P) h hx hn hs
                obtain ⟨L', w', hL', hrun, k1, k2, k3⟩ := wr_ok (P := P) h hw g2
                rw [hL] at hL'; cases hL'
                exact ⟨.int .i64 (Nat.min sn n : Nat), w', ρ, by simp [Builtin.copy_, ht, ha, hb, hdd, h1, hsz, g1, hrun, goInt], .int _ _, k1, k2, k3⟩
              · cases hp
        split at hl
        · simp at hl
          obtain ⟨rfl, rfl⟩ := hl
          cases hd
          exact bran_pure h (y := .int .i64 0) (by simp [Builtin.copy_, ht, ha, hb, hdd, h1, hsz, h2, goInt]) (.int _ _)
        · cases hd with
          | sl _ _ _ _ _ L hL => exact body hL rfl hl
        · cases hd with
          | su _ _ _ _ _ L hL hz hc => exact body hL rfl hl
        · cases hl
    · cases hl
  · cases hl

theorem delete_ok (hE : EnvOK P E B) (hQ : EqOK P E) {t kt : Nat} {et : Nat} {ti : TI} {g : Nat} {es : List (AV × AV × Nat)} {clk : Nat} {key : AV} {cm ck : Value} {ts : Array TypeId} {T : TypeId} {args : Array Value} (h : HRs E B ρ st w)
    (ht : ts[0]? = some t) (ha : args[0]? = some cm) (hb : args[1]? = some ck) (hti : E.ti t = some ti) (hu : ti.u = .map kt et) (hm : VR ρ (.map g) cm) (hk : VR ρ key ck)
    (eg : st.hp.get g = some (.map es clk)) (ekp : keyPlain E kt key = true) {r : Option (Nat × AV × Nat)} (hf : keyFind E kt key es 0 = some r)
    (hr : match r with | none => st' = st | some (i, _, _) => st.setG g (.map (delAt es i) clk) = some st') : BRan P E B ρ st w (Builtin.delete_ ts T args) st' (.tup []) := by
  obtain ⟨d, hd, hu', _⟩ := (hE.ti t _ hti).underlying
  rw [hu] at hu'; cases hu'
  obtain ⟨L, fs, hL, hbl, hes⟩ := map_at h eg
  cases hm with
  | map _ L' hL' =>
    rw [hL] at hL'; cases hL'
    obtain ⟨r', hr1, hr2⟩ := findKey_ok (w := w) hE hQ ekp hk hf hes
    have hck := fun e => key_check (P := P) (w := w) (e := e) hE hQ ekp hk
    cases r with
    | none =>
      cases r' with
      | some _ => exact hr1.elim
      | none =>
        simp only at hr; subst hr
        have hsame : w.heap.setIfInBounds L.b (.map fs clk) = w.heap := by
          apply Array.ext_getElem?
          intro n
          rw [Array.getElem?_setIfInBounds]
          split
          · rename_i e; subst e
            split
            · rw [hbl]
            · rename_i h0; rw [Array.getElem?_eq_none (by omega)]
          · rfl
        refine bran_pure h (y := .tuple #[]) ?_ (.tup _ _ .nil)
        simp [Builtin.delete_, ht, ha, hb, hd, run_getMap hbl, hck, hr2, run_setMap hbl, hsame]
    | some q =>
      obtain ⟨j, v0, b0⟩ := q
      cases r' with
      | none => exact hr1.elim
      | some q' =>
        obtain ⟨j', u⟩ := q'
        obtain ⟨rfl, _, n, e, hn, hfn, hek⟩ := hr1
        simp at hn; subst hn
        simp only at hr
        obtain ⟨k1, k2, k3⟩ := map_turn (fs' := fs.eraseIdxIfInBounds j) (clk' := clk) h eg hL hbl (by
          have : (fs.eraseIdxIfInBounds j).toList = fs.toList.eraseIdx j := by
            unfold Array.eraseIdxIfInBounds
            split
            · simp
            · rename_i h0; rw [List.eraseIdx_of_length_le]; simp; omega
          rw [this]; exact hes.del j) hr
        exact ⟨.tuple #[], _, ρ, by simp [Builtin.delete_, ht, ha, hb, hd, run_getMap hbl, hck, hr2, run_setMap hbl], .tup _ _ .nil, k1, k2, k3⟩

theorem bytesOf_ok : ∀ {l : List AV} {bs : List Nat} {xs : List Value}, bytesOf l = some bs → VRL ρ l xs → ∃ ns : List Nat, xs = ns.map (fun (n : Nat) => (.int .u8 n : Value)) ∧ bs = ns.map (· % 256)
  | [], bs, _, h, .nil => by simp [bytesOf] at h; subst h; exact ⟨[], rfl, rfl⟩
  | x :: l, bs, _, h, .cons _ cx _ xs hx hxs => by
    unfold bytesOf at h
    split at h
    · rename_i heq; cases heq
    · rename_i n l' heq
      simp only [List.cons.injEq] at heq
      obtain ⟨rfl, rfl⟩ := heq
      split at h
      · rename_i r hr
        simp at h; subst h
        obtain ⟨ns, h1, h2⟩ := bytesOf_ok hr hxs
        cases hx
        exact ⟨n :: ns, by simp [h1], by simp [h2]⟩
      · cases h
    · cases h

theorem run_loadBytes {c : Array Value} {bk ty : Nat} {fz : Nat × Nat} (hb : w.heap[bk]? = some (.cells c ty fz)) : ∀ (ns : List Nat) (off : Nat) (acc : List Nat), (∀ j, j < ns.length → c[off + j]? = (ns.map (fun (n : Nat) => (.int .u8 n : Value)))[j]?) →
    (loadBytes ⟨bk, off, none⟩ (bytes acc) ns.length).run P w = .ok (bytes (acc ++ ns.map (· % 256))) w
  | [], off, acc, _ => by simp [loadBytes]
  | n :: ns, off, acc, hc => by
    have h0 : c[off]? = some (.int .u8 n) := by simpa using hc 0 (by simp)
    have hl : w.cell? ⟨bk, off, none⟩ = some (.int .u8 n) := by rw [cell_at hb, h0]
    have hpush : (bytes acc).push (UInt8.ofNat n) = bytes (acc ++ [n % 256]) := by
      apply ByteArray.ext
      simp [bytes, ByteArray.push]
      apply UInt8.toNat_inj.1; simp
    have ih := run_loadBytes hb ns (off + 1) (acc ++ [n % 256]) fun j hj => by
      have := hc (j + 1) (by simp; omega)
      simpa [Nat.add_assoc, Nat.add_comm 1 j] using this
    simp only [List.length_cons, loadBytes, Sem.run_bind, run_load, hl, Result.andThen_ok, add_none, Int.toNat_natCast]
    have hp : n.toUInt8 = UInt8.ofNat n := rfl
    rw [hp, hpush, ih]
    simp

theorem freeze_other (aa : Addr) (n : Nat) (w : World) : (w.freeze aa n).os = w.os ∧ (w.freeze aa n).tape = w.tape ∧ (w.freeze aa n).output = w.output ∧ (w.freeze aa n).heap.size = w.heap.size ∧ ∀ r, r ≠ aa.block → (w.freeze aa n).heap[r]? = w.heap[r]? := by
  unfold World.freeze
  split
  · exact ⟨rfl, rfl, rfl, rfl, fun _ _ => rfl⟩
  · refine ⟨rfl, rfl, rfl, by simp, fun r hr => ?_⟩
    simp only [Array.getElem?_modify]
    rw [if_neg (fun e => hr e.symm)]

theorem unsafeString_ok (hE : EnvOK P E B) (hLib : LibOK P E) (hRow : RowOK P E) {t e g m off n : Nat} {ti : TI} {ty hw : Nat} {ms : List Mem} {l : List AV} {bs : List Nat} {p : Value} {kd : IntKind} {ts : Array TypeId} {T : TypeId} (h : HRs E B ρ st w)
    (ht : ts[0]? = some t) (hti : E.ti t = some ti) (hu : ti.u = .ptr e) (hp : VR ρ (.ptr g m off) p) (eg : st.hp.get g = some (.cells ty hw ms)) (c1 : E.byteAt ty = true) (c2 : E.byteAt e = true) (hn : n < 1000000) (hn0 : n ≠ 0)
    (hr : st.rd E g m off n = some l) (hbs : bytesOf l = some bs) (hd : st.delG g = some st') :
    BRan P E B ρ st w (Builtin.unsafeString_ ts T #[p, .int kd n]) st' (.str bs) := by
  obtain ⟨d, hdd, hu', _⟩ := (hE.ti t _ hti).underlying
  rw [hu] at hu'; cases hu'
  obtain ⟨L, c, ty', fz, xs, hL, hb, hv, hlen, hc⟩ := rd_ok h hr
  obtain ⟨ns, rfl, rfl⟩ := bytesOf_ok hbs hv
  have hnl : ns.length = n := by simpa using hlen
  obtain ⟨k1, k2, k3⟩ := delG_eq hd
  have hobj := (h.obj g _ eg).2.2
  have hty : ty' = ty ∧ ∃ x, x ∈ ms ∧ x.m = m := by
    have hr' := hr
    unfold St.rd St.cellsAt at hr'
    have hng : Nat.blt g NG = false := by
      have := (h.obj g _ eg).1
      cases hh : Nat.blt g NG with
      | false => rfl
      | true => simp [Nat.blt] at hh; omega
    simp only [hng, getG_eq, eg] at hr'
    cases hfm : findM m ms with
    | none => simp [hfm] at hr'
    | some x =>
      obtain ⟨hx, hxm⟩ := findM_mem hfm
      obtain ⟨_, L', c', fz', hL', hm'⟩ := hobj.1 x hx
      rw [hxm, hL] at hL'; cases hL'
      have := hm'.blk
      rw [hb] at this
      cases this
      exact ⟨rfl, x, hx, hxm⟩
  obtain ⟨rfl, x, hx, hxm⟩ := hty
  cases hp with
  | ptr _ _ _ L' hL' =>
    rw [hL] at hL'; cases hL'
    have hle : L.s + off + n ≤ c.size := by
      have h2 := hc (n - 1) (by simp; omega)
      have h3 : L.s + off + (n - 1) < c.size := by
        rcases Nat.lt_or_ge (L.s + off + (n - 1)) c.size with q | q
        · exact q
        · rw [Array.getElem?_eq_none q, List.getElem?_eq_getElem (by simp; omega)] at h2
          cases h2
      omega
    have hlb := run_loadBytes (P := P) hb ns (L.s + off) [] (by simpa using hc)
    rw [hnl] at hlb
    obtain ⟨f1, f2, f3, f4, f5⟩ := freeze_other ⟨L.b, L.s + off, none⟩ n w
    obtain ⟨j1, j2⟩ := HR.lose (w' := w.freeze ⟨L.b, L.s + off, none⟩ n) h eg f1 f2 f3 f4 (fun r hr hnb => f5 r fun er => hnb ⟨_, m, L, eg, by simp [memsOf]; exact ⟨x, hx, hxm⟩, hL, er.symm⟩)
    refine ⟨.string (bytes (ns.map (· % 256))), w.freeze ⟨L.b, L.s + off, none⟩ n, ρ, ?_, .str _, ?_, ?_, k1⟩
    · have hbig : ¬ (9223372036854775807 : Int) < (n : Int) := by omega
      have hn1 : ¬ (n : Int) < 0 := by omega
      have hcell := (hLib.byte _ c1).1
      have he : (elemOf t).run P w = .ok e w := by simp [elemOf, hdd]
      have hva : (variablesAt ⟨L.b, L.s + off, none⟩ e n).run P w = .ok true w := by
        rw [run_variablesAt hb, hRow.row _ _ _ _ _ c1 c2]
        rw [hcell]; simpa using hle
      have hlb' : (loadBytes ⟨L.b, L.s + off, none⟩ ByteArray.empty n).run P w = .ok (bytes (ns.map (· % 256))) w := by
        rw [List.nil_append] at hlb; exact hlb
      show ((asInt (.int kd n)) >>= _ : Sem Value).run P w = _
      simp [asInt, asIntOf, ht, hbig, hn1, hn0, he, hva, hlb']
    · unfold HRs; rw [k2, k3]; exact j1
    · unfold Evs; rw [k2, k3]; exact j2

end
end Go.Proofs.YtcedalofcekdkaaGreatDoor.Ex
end

section
namespace Go.Proofs.YtcedalofcekdkaaGreatDoor.Ex
section
variable {P : Program} {E : Env} {B : Nat} {ops : Array Oper} {b : Frame} {k : List Item} {cs : List Frame} {i : Nat} {rest : List Nat} {o : Oper}
variable {ρ : Ren} {st st' : St} {a : Act} {w : World} {v : AV}

structure AllOK (P : Program) (E : Env) (B : Nat) : Prop where
  env : EnvOK P E B
  eq : EqOK P E
  zero : ZOK P E
  lib : LibOK P E
  row : RowOK P E

theorem VRL.two {ρ : Ren} {x y : AV} {xs : List Value} (h : VRL ρ [x, y] xs) : ∃ cx cy, xs = [cx, cy] ∧ VR ρ x cx ∧ VR ρ y cy := by
  cases h with
  | cons _ cx _ _ hx h => cases h with
    | cons _ cy _ _ hy h => cases h; exact ⟨cx, cy, rfl, hx, hy⟩

theorem VRL.head2 {ρ : Ren} {x y : AV} {l : List AV} {xs : List Value} (h : VRL ρ (x :: y :: l) xs) : ∃ cx cy r, xs = cx :: cy :: r ∧ VR ρ x cx ∧ VR ρ y cy := by
  cases h with
  | cons _ cx _ _ hx h => cases h with
    | cons _ cy _ r hy h => exact ⟨cx, cy, r, rfl, hx, hy⟩

theorem VRL.head1 {ρ : Ren} {x : AV} {l : List AV} {xs : List Value} (h : VRL ρ (x :: l) xs) : ∃ cx r, xs = cx :: r ∧ VR ρ x cx := by
  cases h with
  | cons _ cx _ r hx h => exact ⟨cx, r, rfl, hx⟩

theorem builtin_ok (hA : AllOK P E B) {c : Call} {bi : Builtin} (H : Here ops i o a) (hi : Inv E B ρ st a w) (ho : o.op = .call c) (hc : c.callee = .builtin bi) {args : List AV} (hargs : VRL ρ args (c.args.toList.map a.eval)) :
    (builtinX E st bi c.argTypes.toList o.dst args).Holds (OpPost P E B ops b k cs i rest ρ st a w) := by
  have hE := hA.env
  have go : ∀ {s : Sem Value} {st' : St} {v : AV}, (∀ co, builtin bi c.argTypes o.type co (c.args.map a.eval) = (do pure (.value (← s)))) → BRan P E B ρ st w s st' v → (fin st' o.dst v).Holds (OpPost P E B ops b k cs i rest ρ st a w) := by
    intro s st' v hb ⟨y, w', ρ', h1, h2, h3, h4, h5⟩
    refine fin_ran H hi ⟨y, w', ρ', _, ?_, .inl rfl, h2, h3, h4, h5⟩
    simp [execOp, ho, resolve, hc, invoke, hb, h1]
  have hty : ∀ {t : Nat} {l : List Nat}, c.argTypes.toList = t :: l → c.argTypes[0]? = some t := fun h => by rw [← Array.getElem?_toList, h]; rfl
  have hty2 : ∀ {t u : Nat} {l : List Nat}, c.argTypes.toList = t :: u :: l → c.argTypes[1]? = some u := fun h => by rw [← Array.getElem?_toList, h]; rfl
  have hl : (c.args.map a.eval).toList = c.args.toList.map a.eval := by simp
  rw [← hl] at hargs
  generalize c.args.map a.eval = cargs at go hargs
  have hc0 : ∀ {x : Value} {l : List Value}, cargs.toList = x :: l → cargs[0]? = some x := fun h => by rw [← Array.getElem?_toList, h]; rfl
  have hc1 : ∀ {x y : Value} {l : List Value}, cargs.toList = x :: y :: l → cargs[1]? = some y := fun h => by rw [← Array.getElem?_toList, h]; rfl
  have hexact : ∀ {l : List Value}, cargs.toList = l → cargs = l.toArray := fun h => by rw [← h]
  unfold builtinX
  simp only
  split
  · rename_i t l x l' e
    obtain ⟨cx, r, e1, hx⟩ := hargs.head1
    split
    · rename_i v hv
      exact go (fun _ => rfl) (lenX_ok hE hi.hr (hty e) (hc0 e1) hx hv)
    · trivial
  · rename_i t l x l' e
    obtain ⟨cx, r, e1, hx⟩ := hargs.head1
    split
    · rename_i v hv
      exact go (fun _ => rfl) (capX_ok hE hi.hr (hty e) (hc0 e1) hx hv)
    · trivial
  · rename_i t t2 l x y e
    obtain ⟨cx, cy, e1, hx, hy⟩ := hargs.two
    have e2 := hexact e1
    subst e2
    split
    · rename_i v s hv
      exact go (fun _ => rfl) (appendX_ok hE hi.hr (hty e) (hty2 e) hx hy hv)
    · trivial
  · rename_i t l x y l' e
    obtain ⟨cx, cy, r, e1, hx, hy⟩ := hargs.head2
    split
    · rename_i v s hv
      exact go (fun _ => rfl) (copyX_ok hE hi.hr (hty e) (hc0 e1) (hc1 e1) hx hy hv)
    · trivial
  · split
    · rename_i v hv
      exact go (s := Builtin.min_ c.argTypes o.type cargs) (fun _ => rfl) (minMax_ok (isMax := false) (ts := c.argTypes) (T := o.type) hi.hr hargs hv)
    · trivial
  · split
    · rename_i v hv
      exact go (s := Builtin.max_ c.argTypes o.type cargs) (fun _ => rfl) (minMax_ok (isMax := true) (ts := c.argTypes) (T := o.type) hi.hr hargs hv)
    · trivial
  · rename_i t l x l' e
    obtain ⟨cx, r, e1, hx⟩ := hargs.head1
    cases hcl : clearX E st t x with
    | none => trivial
    | some s => exact go (fun _ => rfl) (clearX_ok hE hi.hr (hty e) (hc0 e1) hx hcl)
  · rename_i t l m key l' e
    obtain ⟨cm, ck, r, e1, hm, hk⟩ := hargs.head2
    split
    · rename_i v s hv
      have key : v = .tup [] ∧ BRan P E B ρ st w (Builtin.delete_ c.argTypes o.type cargs) s (.tup []) := by
        split at hv
        · rename_i kt et z1 z2 z3 z4 g et'
          split at hv
          · rename_i es clk eg ekp
            rw [getG_eq] at eg
            cases hf : keyFind E kt key es 0 with
            | none => simp [hf] at hv
            | some q =>
              simp only [hf] at hv
              cases q with
              | none =>
                simp at hv
                obtain ⟨rfl, rfl⟩ := hv
                exact ⟨rfl, delete_ok hE hA.eq hi.hr (hty e) (hc0 e1) (hc1 e1) et' rfl hm hk eg ekp hf rfl⟩
              | some p =>
                obtain ⟨j, v0, b0⟩ := p
                simp only [Option.map_eq_some_iff] at hv
                obtain ⟨s', hs', hv⟩ := hv
                simp at hv
                obtain ⟨rfl, rfl⟩ := hv
                exact ⟨rfl, delete_ok hE hA.eq hi.hr (hty e) (hc0 e1) (hc1 e1) et' rfl hm hk eg ekp hf hs'⟩
          · cases hv
        · cases hv
      obtain ⟨rfl, key⟩ := key
      exact go (fun _ => rfl) key
    · trivial
  · rename_i g m off n cp
    split
    · rename_i v hv
      split at hv
      · cases hv
      · rename_i hc0'
        simp at hv; subst hv
        obtain ⟨cx, r, e1, hx⟩ := hargs.head1
        have hlen := hargs.length
        have e2 := hexact e1
        have : r = [] := by rw [e1] at hlen; simpa using hlen
        subst this; subst e2
        cases hx with
        | sl _ _ _ _ _ L hL =>
          refine go (fun _ => rfl) (bran_pure (y := .pointer (some ⟨L.b, L.s + off, none⟩)) hi.hr ?_ (.ptr _ _ _ L hL))
          show (if cp ≠ 0 then _ else _ : Sem Value).run P w = _
          rw [if_pos hc0']; rfl
    · trivial
  · rename_i g m off n z
    split
    · rename_i v hv
      split at hv
      · cases hv
      · rename_i hc0'
        simp at hv; subst hv
        obtain ⟨cx, r, e1, hx⟩ := hargs.head1
        have hlen := hargs.length
        have e2 := hexact e1
        have : r = [] := by rw [e1] at hlen; simpa using hlen
        subst this; subst e2
        cases hx with
        | su _ _ _ _ _ L hL hz hcp =>
          refine go (fun _ => rfl) (bran_pure (y := .pointer (some ⟨L.b, L.s + off, none⟩)) hi.hr ?_ (.ptr _ _ _ L hL))
          show (if (L.t - L.s - off) / z ≠ 0 then _ else _ : Sem Value).run P w = _
          have hne : (L.t - L.s - off) / z ≠ 0 := by
            have hn : n ≠ 0 := hc0'
            have : n ≤ (L.t - L.s - off) / z := by rw [Nat.le_div_iff_mul_le hz]; omega
            omega
          rw [if_pos hne]; rfl
    · trivial
  ·
    rename_i t l kd e
    obtain ⟨cx, cy, e1, hx, hy⟩ := hargs.two
    have e2 := hexact e1
    subst e2
    cases hx; cases hy
    refine go (fun _ => rfl) (bran_pure (y := .string (bytes [])) hi.hr ?_ (.str _))
    show ((asInt (.int kd 0)) >>= _ : Sem Value).run P w = _
    simp [asInt, asIntOf, hty e]
    rfl
  · rename_i t l g m off kd n e
    obtain ⟨cx, cy, e1, hx, hy⟩ := hargs.two
    have e2 := hexact e1
    subst e2
    split
    · refine go (fun _ => rfl) (bran_pure (y := .string (bytes [])) hi.hr ?_ (.str _))
      cases hx; cases hy
      show ((asInt (.int kd 0)) >>= _ : Sem Value).run P w = _
      simp [asInt, asIntOf, hty e]
      rfl
    · rename_i hn0
      split
      · rename_i ty hw ms e' z1 z2 z3 z4 eg et'
        rw [getG_eq] at eg
        split
        · rename_i l' c1 c2 hr
          simp only [Bool.and_eq_true] at c1
          have hlt : n < 1000000 := by simp [Nat.blt] at c2; omega
          split
          · rename_i bs hbs
            split
            · trivial
            · rename_i s hd
              cases hy
              exact go (fun _ => rfl) (unsafeString_ok hE hA.lib hA.row hi.hr (hty e) et' rfl hx eg c1.1 c1.2 hlt hn0 hr hbs hd)
          · trivial
        · trivial
      · trivial
  · trivial

end
end Go.Proofs.YtcedalofcekdkaaGreatDoor.Ex
end

section
namespace Go.Proofs.YtcedalofcekdkaaGreatDoor.Ex
section
variable {P : Program} {E : Env} {B : Nat} {ops : Array Oper} {b : Frame} {k : List Item} {cs : List Frame} {i : Nat} {rest : List Nat} {o : Oper}
variable {ρ : Ren} {st st' : St} {a : Act} {w : World} {v : AV}

theorem entry_ok {it : Operand} (H : Here ops i o a) (hi : Inv E B ρ st a w) (ho : o.op = .entry it) (E' : Env) (self : Self) :
    (hEntry it E' self o.dst st).Holds (OpPost P E B ops b k cs i rest ρ st a w) := by
  unfold hEntry
  split
  · rename_i u e
    have hx := ev_ok hi e
    unfold finO
    split
    · rename_i r er
      unfold entryX at er
      split at er
      · rename_i g
        split at er
        · rename_i m since seen last eg
          rw [getG_eq] at eg
          obtain ⟨L, q, hL, h0, hb, M, hM, hq⟩ := (hi.hr.obj g _ eg).2.2
          subst hq
          split at er
          · rename_i x1 x2 bn tl es clk hrev em
            rw [getG_eq] at em
            obtain ⟨M', fs, hM', hbm, hes⟩ := map_at hi.hr em
            rw [hM] at hM'; cases hM'
            split at er
            · rename_i y1 y2 e' hcl hfind
              simp at er; subst er
              have hclk := Nat.eq_of_beq_eq_true hcl
              subst hclk
              have hseen : seen.toArray.back? = some bn := by
                have : seen = tl.reverse ++ [bn] := by
                  have := congrArg List.reverse hrev; simpa using this
                rw [this]; simp
              obtain ⟨k1, v1, b1⟩ := e'
              have hf : ∃ f, fs.find? (fun x => x.born == bn) = some f ∧ VR ρ k1 f.key ∧ VR ρ v1 f.val := by
                rw [← Array.find?_toList]
                have gen : ∀ {es : List (AV × AV × Nat)} {fs : List MapEntry}, EntsR ρ es fs → es.find? (fun e => Nat.beq e.2.2 bn) = some (k1, v1, b1) → ∃ f, fs.find? (fun x => x.born == bn) = some f ∧ VR ρ k1 f.key ∧ VR ρ v1 f.val := by
                  intro es
                  induction es with
                  | nil => intro fs _ h; simp at h
                  | cons e es ih =>
                    obtain ⟨p, q, r⟩ := e
                    intro fs he h
                    cases fs with
                    | nil => exact he.elim
                    | cons f fs =>
                      simp only [List.find?_cons, he.2.2.1] at h ⊢
                      cases hc : Nat.beq r bn with
                      | true =>
                        have := Nat.eq_of_beq_eq_true hc
                        subst this
                        simp only [hc] at h
                        simp at h
                        obtain ⟨rfl, rfl, rfl⟩ := h
                        exact ⟨f, by simp, he.1, he.2.1⟩
                      | false =>
                        simp only [hc] at h
                        obtain ⟨f', h1, h2⟩ := ih he.2.2.2 h
                        have hne : r ≠ bn := fun e => by rw [e] at hc; simp at hc
                        exact ⟨f', by rw [beq_false_of_ne hne]; exact h1, h2⟩
                exact gen hes hfind
              obtain ⟨f, hf, h1, h2⟩ := hf
              generalize hax : a.eval it = ax at hx
              cases hx with
              | ptr _ _ _ L' hL' =>
                rw [hL] at hL'; cases hL'
                rw [h0] at hax
                refine fin_ran H hi (ran_pure hi (x := .tuple #[f.key, f.val]) ?_ (.tup _ _ (.cons _ _ _ _ h1 (.cons _ _ _ _ h2 .nil))))
                simp only [execOp, ho, hax, Instr.entry, Sem.run_bind, run_getMap hb, Result.andThen_ok, hseen, run_getMap hbm, bne_self_eq_false, Bool.false_eq_true, if_false, hf, Sem.run_pure]
            · cases er
          · cases er
        · cases er
      · cases er
    · trivial
  · trivial

theorem op_ok (hA : AllOK P E B) (H : Here ops i o a) (hi : Inv E B ρ st a w) (self : Self)
    (hcall : ∀ c f, o.op = .call c → c.callee = .value f → (hCall c E self o.dst st).Holds (OpPost P E B ops b k cs i rest ρ st a w)) :
    (opX o.op E self o.dst st).Holds (OpPost P E B ops b k cs i rest ρ st a w) := by
  have hE := hA.env
  cases ho : o.op with
  | move x => exact move_ok H hi (.inl ho) E self
  | assign x => exact move_ok H hi (.inr ho) E self
  | pick c x y => exact pick_ok H hi ho E self
  | alloc t => exact alloc_ok hE H hi ho self
  | box t x => exact box_ok H hi ho E self
  | build t ps => exact build_ok hE H hi ho self
  | buildSlice t l ps => exact buildSlice_ok hE H hi ho self
  | load t x => exact load_ok hE H hi ho self
  | store t x y => exact store_ok hE H hi ho self
  | nilCheck x => exact nilCheck_ok H hi ho E self
  | binOp bo t x y t' => exact bin_ok hE hA.eq H hi ho self
  | unOp uo t x => exact un_ok H hi ho E self
  | convert t u x => exact convert_ok hE hA.lib H hi ho self
  | makeInterface t x => exact iface_ok hE H hi ho self
  | makeFunc fn x y =>
    cases hfn : fn with
    | yield l => trivial
    | func f => rw [hfn] at ho; exact func_ok H hi ho (fun l e => by cases e) E self
    | method n => rw [hfn] at ho; exact func_ok H hi ho (fun l e => by cases e) E self
    | methodOf t n => rw [hfn] at ho; exact func_ok H hi ho (fun l e => by cases e) E self
    | via t p f q => rw [hfn] at ho; exact func_ok H hi ho (fun l e => by cases e) E self
  | makeMap t r => exact map_ok hE H hi ho self
  | makeSlice t l c => exact makeSlice_ok hE H hi ho self
  | slice t x lo h m => exact slice_ok hE H hi ho self
  | fieldAddr t x f => exact fieldAddr_ok hE H hi ho self
  | field t x f => exact field_ok hE H hi ho self
  | indexAddr t x y => exact indexAddr_ok hE H hi ho self
  | index t x y => exact index_ok hE H hi ho self
  | lookup t m x q => exact lookup_ok hE hA.eq hA.zero H hi ho self
  | mapUpdate t m x y => exact mapPut_op hE hA.eq H hi (.inl ho) self
  | insert t m x y => exact mapPut_op hE hA.eq H hi (.inr ho) self
  | range t x => exact range_ok hE H hi ho self
  | next it q => exact next_op H hi ho E self
  | entry it => exact entry_ok H hi ho E self
  | extract t n => exact extract_ok H hi ho E self
  | call c =>
    show (hCall c E self o.dst st).Holds _
    cases hc : c.callee with
    | value f => exact hcall c f ho hc
    | builtin bi =>
      unfold hCall
      simp only [hc]
      split
      · rename_i args e
        exact builtin_ok hA H hi ho hc (evs_ok hi e)
      · trivial
    | invoke r n => unfold hCall; simp only [hc]; trivial
  | _ => trivial

end
end Go.Proofs.YtcedalofcekdkaaGreatDoor.Ex
end

section
namespace Go.Proofs.YtcedalofcekdkaaGreatDoor.Ex
section
variable {P : Program} {E : Env} {B : Nat} {ops : Array Oper} {b : Frame} {k : List Item} {cs : List Frame}

def CallsOK (P : Program) (E : Env) (B : Nat) (self : Self) : Prop :=
  ∀ (ops : Array Oper) (b : Frame) (k : List Item) (cs : List Frame) (i : Nat) (o : Oper) (rest : List Nat) (ρ : Ren) (st : St) (a : Act) (w : World) (c : Call) (f : Operand),
    Here ops i o a → Inv E B ρ st a w → o.op = .call c → c.callee = .value f → (hCall c E self o.dst st).Holds (OpPost P E B ops b k cs i rest ρ st a w)

theorem wanted_ok {ρ : Ren} {st : St} {a : Act} {w : World} {o : Oper} {r : Bool} (hi : Inv E B ρ st a w) (h : wantedX ops st o = some r) : Region.wanted o (yielded ops a.tmps) = r := by
  unfold wantedX at h
  unfold Region.wanted
  split at h
  · rename_i hg; simp at h; subst h; simp [hg]
  · rename_i j want hg
    simp only [hg]
    split at h
    · rename_i p hp
      split at h
      · rename_i t ht
        cases e : evT t st with
        | none => simp [e] at h
        | some v =>
          obtain ⟨ntm, tm, hp', nx, lg, df⟩ := st
          obtain ⟨x, hx, hv⟩ := hi.tr.val t v e
          simp only [e] at h
          have hy : yielded ops a.tmps j = match x with | .bool b => some b | _ => none := by
            simp only [yielded, hp, ht, hx, Option.bind_some]
            cases x <;> rfl
          rw [hy]
          cases hv <;> simp at h <;> subst h <;> simp
      · rename_i ht
        simp at h; subst h
        simp only [yielded, hp, ht, Option.bind_some, Option.bind_none]; rfl
    · rename_i hp
      simp at h; subst h
      simp only [yielded, hp, Option.bind_none]; rfl

def RegPost (P : Program) (E : Env) (B : Nat) (ops : Array Oper) (b : Frame) (k : List Item) (cs : List Frame) (is : List Nat) (ρ : Ren) (st : St) (a : Act) (w : World) : Unit → St → Prop :=
  fun _ st' => ∃ ρ' a' w', Steps P (lone (b.atR a (.inRegion ops is :: k)) cs w) (lone (b.atR a' (.inRegion ops [] :: k)) cs w') ∧ Inv E B ρ' st' a' w' ∧ Evs ρ st w ρ' st' w' ∧ Logs st st'

theorem ops_ok (hA : AllOK P E B) {self : Self} (hC : CallsOK P E B self) : ∀ (l : List Oper) (j : Nat) (ρ : Ren) (st : St) (a : Act) (w : World), (∀ n, n < l.length → ops[j + n]? = l[n]?) → Inv E B ρ st a w →
    (opsX E self ops l st).Holds (RegPost P E B ops b k cs (List.range' j l.length) ρ st a w)
  | [], j, ρ, st, a, w, _, hi => ⟨ρ, a, w, .refl _ _, hi, Ev.refl _ _ _ _, .refl _⟩
  | o :: l, j, ρ, st, a, w, hl, hi => by
    have h0 : ops[j]? = some o := by simpa using hl 0 (by simp)
    have hl' : ∀ n, n < l.length → ops[j + 1 + n]? = l[n]? := fun n hn => by
      have := hl (n + 1) (by simp; omega)
      simpa [Nat.add_assoc, Nat.add_comm 1 n] using this
    have next : ∀ s, OpPost P E B ops b k cs j (List.range' (j + 1) l.length) ρ st a w () s → (opsX E self ops l s).Holds (RegPost P E B ops b k cs (List.range' j (l.length + 1)) ρ st a w) := by
      rintro s ⟨ρ1, a1, w1, h1, h2, h3, l1, _⟩
      refine (ops_ok hA hC l (j + 1) ρ1 s a1 w1 hl' h2).mono ?_
      rintro _ s' ⟨ρ2, a2, w2, g1, g2, g3, l2⟩
      exact ⟨ρ2, a2, w2, by rw [List.range'_succ]; exact h1.trans g1, g2, h3.trans g3, l1.trans l2⟩
    simp only [opsX, List.length_cons]
    cases hw : wantedX ops st o with
    | none => trivial
    | some r =>
      have hwant := wanted_ok (ops := ops) hi hw
      cases r with
      | true =>
        simp only
        by_cases hd : ∃ c, o.op = .defer c
        · obtain ⟨c, hd⟩ := hd
          simp only [hd, opX, hNo, Out.bind]; trivial
        · have H : Here ops j o a := ⟨h0, hwant, fun c e => hd ⟨c, e⟩⟩
          exact (op_ok hA H hi self fun c f h1 h2 => hC ops b k cs j o (List.range' (j + 1) l.length) ρ st a w c f H hi h1 h2).bind fun _ s hs => next s hs
      | false =>
        simp only
        refine (lay_ok (d := o.dst) (x := undef) hi.tr hi.df hi.hr (.tup _ _ .nil)).bind fun _ s ⟨h1, h2, h3, h4⟩ => next s ⟨ρ, a.put o.dst undef, w, ?_, h1, by unfold Evs; rw [h2, h3]; exact Ev.refl _ _ _ _, h4, _, _, h0, rfl⟩
        have := stepR_op_skip (P := P) (b := b) (a := a) (k := k) (cs := cs) (w := w) (ops := ops) (i := j) (rest := List.range' (j + 1) l.length) (by simp [h0, hwant])
        rw [h0] at this
        exact .one this

def Fr (ρ : Ren) (ro : Option Nat) (b : Frame) : Prop :=
  match ro with
  | none => b.roundOf = none
  | some g => ∃ L, ρ.loc g 0 = some L ∧ b.roundOf = some L.b

theorem Fr.mono {ρ ρ' : Ren} {ro : Option Nat} (h : Fr ρ ro b) (hle : ρ.le ρ') : Fr ρ' ro b := by
  cases ro with
  | none => exact h
  | some g => obtain ⟨L, h1, h2⟩ := h; exact ⟨L, hle.loc _ _ _ h1, h2⟩

def Stands (b : Frame) (k : List Item) (cs : List Frame) (a : Act) (w : World) : AE → Machine → Prop
  | .normal, s => s = lone (b.atR a k) cs w
  | .exit id, s => ∃ k', exitTo id k' = exitTo id k ∧ s = lone (b.atR a (.code (.exit id) :: k')) cs w
  | .ret, s => ∃ k', s = lone (b.atR a (.code .ret :: k')) cs w

def CPost (P : Program) (E : Env) (B : Nat) (b : Frame) (k : List Item) (cs : List Frame) (c : Code) (ρ : Ren) (st : St) (a : Act) (w : World) : AE → St → Prop :=
  fun e s => ∃ ρ' a' w' σ, Steps P (lone (b.atR a (.code c :: k)) cs w) σ ∧ Stands b k cs a' w' e σ ∧ Inv E B ρ' s a' w' ∧ Evs ρ st w ρ' s w' ∧ Logs st s

def SelfOK (P : Program) (E : Env) (B : Nat) (self : Self) : Prop :=
  ∀ (c : Code) (ro : Option Nat) (b : Frame) (k : List Item) (cs : List Frame) (ρ : Ren) (st : St) (a : Act) (w : World), Fr ρ ro b → Inv E B ρ st a w → (self c ro st).Holds (CPost P E B b k cs c ρ st a w)

variable {ρ : Ren} {st : St} {a : Act} {w : World} {ro : Option Nat} {self : Self}

theorem skip_code {c : Code} (hi : Inv E B ρ st a w) (h : step P (lone (b.atR a (.code c :: k)) cs w) = .next (lone (b.atR a k) cs w)) : (cSkip E self ro st).Holds (CPost P E B b k cs c ρ st a w) :=
  ⟨ρ, a, w, _, .one h, rfl, hi, Ev.refl _ _ _ _, .refl _⟩

theorem exit_code {id : Nat} (hi : Inv E B ρ st a w) : (cExit id E self ro st).Holds (CPost P E B b k cs (.exit id) ρ st a w) :=
  ⟨ρ, a, w, _, .refl _ _, ⟨k, rfl, rfl⟩, hi, Ev.refl _ _ _ _, .refl _⟩

theorem ret_code (hi : Inv E B ρ st a w) : (cRet E self ro st).Holds (CPost P E B b k cs .ret ρ st a w) :=
  ⟨ρ, a, w, _, .refl _ _, ⟨k, rfl⟩, hi, Ev.refl _ _ _ _, .refl _⟩

theorem Stands.leave {e : AE} {σ : Machine} {k1 : List Item} (he : e ≠ .normal) (hk : ∀ id, e = .exit id → exitTo id k1 = exitTo id k) (h : Stands b k1 cs a w e σ) : Stands b k cs a w e σ := by
  cases e with
  | normal => exact absurd rfl he
  | exit id => obtain ⟨k', h1, h2⟩ := h; exact ⟨k', h1.trans (hk id rfl), h2⟩
  | ret => exact h

theorem seq_code (hS : SelfOK P E B self) {x y : Code} (hf : Fr ρ ro b) (hi : Inv E B ρ st a w) : (cSeq x y E self ro st).Holds (CPost P E B b k cs (.seq x y) ρ st a w) := by
  unfold cSeq
  refine (hS x ro b (.code y :: k) cs ρ st a w hf hi).bind ?_
  rintro e s ⟨ρ1, a1, w1, σ, h1, h2, h3, h4, l1⟩
  have h0 : Steps P (lone (b.atR a (.code (.seq x y) :: k)) cs w) σ := .head stepR_seq h1
  cases e with
  | normal =>
    simp only [Stands] at h2; subst h2
    refine (hS y ro b k cs ρ1 s a1 w1 (hf.mono h4.le) h3).mono ?_
    rintro e' s' ⟨ρ2, a2, w2, σ', g1, g2, g3, g4, l2⟩
    exact ⟨ρ2, a2, w2, σ', h0.trans g1, g2, g3, h4.trans g4, l1.trans l2⟩
  | exit id => exact ⟨ρ1, a1, w1, σ, h0, h2.leave (by simp) (fun _ _ => rfl), h3, h4, l1⟩
  | ret => exact ⟨ρ1, a1, w1, σ, h0, h2.leave (by simp) (fun _ _ => rfl), h3, h4, l1⟩

theorem cond_code (hS : SelfOK P E B self) {c : Operand} {x y : Code} (hf : Fr ρ ro b) (hi : Inv E B ρ st a w) : (cCond c x y E self ro st).Holds (CPost P E B b k cs (.cond c x y) ρ st a w) := by
  unfold cCond
  split
  · rename_i e
    have hv := ev_ok hi e
    refine (hS x ro b k cs ρ st a w hf hi).mono ?_
    rintro e' s ⟨ρ1, a1, w1, σ, h1, h2, h3, h4, l1⟩
    generalize hc : a.eval c = cv at hv
    cases hv
    exact ⟨ρ1, a1, w1, σ, .head (by have := stepR_cond (P := P) (b := b) (k := k) (cs := cs) (w := w) (x := x) (y := y) hc; simpa using this) h1, h2, h3, h4, l1⟩
  · rename_i e
    have hv := ev_ok hi e
    refine (hS y ro b k cs ρ st a w hf hi).mono ?_
    rintro e' s ⟨ρ1, a1, w1, σ, h1, h2, h3, h4, l1⟩
    generalize hc : a.eval c = cv at hv
    cases hv
    exact ⟨ρ1, a1, w1, σ, .head (by have := stepR_cond (P := P) (b := b) (k := k) (cs := cs) (w := w) (x := x) (y := y) hc; simpa using this) h1, h2, h3, h4, l1⟩
  · trivial

theorem block_code (hS : SelfOK P E B self) {id : Nat} {c : Code} (hf : Fr ρ ro b) (hi : Inv E B ρ st a w) : (cBlock id c E self ro st).Holds (CPost P E B b k cs (.block id c) ρ st a w) := by
  unfold cBlock
  refine (hS c ro b (.inBlock id :: k) cs ρ st a w hf hi).bind ?_
  rintro e s ⟨ρ1, a1, w1, σ, h1, h2, h3, h4, l1⟩
  have h0 : Steps P (lone (b.atR a (.code (.block id c) :: k)) cs w) σ := .head stepR_block h1
  cases e with
  | normal =>
    simp only [Stands] at h2; subst h2
    exact ⟨ρ1, a1, w1, _, h0.trans (.one stepR_inBlock), rfl, h3, h4, l1⟩
  | exit id' =>
    simp only
    cases hb : Nat.beq id' id with
    | true =>
      have := Nat.eq_of_beq_eq_true hb; subst this
      obtain ⟨k', g1, rfl⟩ := h2
      exact ⟨ρ1, a1, w1, _, h0.trans (.one (stepR_exit (g1.trans (by simp [exitTo])))), rfl, h3, h4, l1⟩
    | false =>
      have hne : id' ≠ id := fun e => by rw [e] at hb; simp at hb
      exact ⟨ρ1, a1, w1, σ, h0, h2.leave (by simp) (fun i e => by cases e; simp [exitTo, Ne.symm hne]), h3, h4, l1⟩
  | ret => exact ⟨ρ1, a1, w1, σ, h0, h2.leave (by simp) (fun _ e => by cases e), h3, h4, l1⟩

theorem Steps.tail {m m1 m' : Machine} (h : Steps P m m') (hs : step P m = .next m1) : m = m' ∨ Steps P m1 m' := by
  obtain ⟨n, hn⟩ := h
  cases n with
  | zero => simp [runN] at hn; exact .inl hn
  | succ n =>
    simp only [runN, hs] at hn
    exact .inr ⟨n, hn⟩

theorem lone_todo {a a' : Act} {k k' : List Item} {w w' : World} (h : lone (b.atR a k) cs w = lone (b.atR a' k') cs w') : k = k' := by
  have := congrArg (fun m : Machine => (m.gs[0]?).map fun g => g.frame.todo) h
  simpa [lone, Frame.atR] using this

theorem loop_code (hS : SelfOK P E B self) {c : Code} (hf : Fr ρ ro b) (hi : Inv E B ρ st a w) : (cLoop c E self ro st).Holds (CPost P E B b k cs (.loop c) ρ st a w) := by
  unfold cLoop
  refine (hS c ro b (.inLoop c :: k) cs ρ st a w hf hi).bind ?_
  rintro e s ⟨ρ1, a1, w1, σ, h1, h2, h3, h4, l1⟩
  have h0 : Steps P (lone (b.atR a (.code (.loop c) :: k)) cs w) σ := .head stepR_loop h1
  cases e with
  | normal =>
    simp only [Stands] at h2; subst h2
    refine (hS (.loop c) ro b k cs ρ1 s a1 w1 (hf.mono h4.le) h3).mono ?_
    rintro e' s' ⟨ρ2, a2, w2, σ', g1, g2, g3, g4, l2⟩
    refine ⟨ρ2, a2, w2, σ', h0.trans (.head stepR_inLoop ((Steps.tail g1 stepR_loop).resolve_left fun e => ?_)), g2, g3, h4.trans g4, l1.trans l2⟩
    subst e
    cases e' with
    | normal =>
      have := congrArg List.length (lone_todo g2)
      simp at this
    | exit id => obtain ⟨k', _, g2⟩ := g2; have := lone_todo g2; simp at this
    | ret => obtain ⟨k', g2⟩ := g2; have := lone_todo g2; simp at this
  | exit id => exact ⟨ρ1, a1, w1, σ, h0, h2.leave (by simp) (fun _ _ => rfl), h3, h4, l1⟩
  | ret => exact ⟨ρ1, a1, w1, σ, h0, h2.leave (by simp) (fun _ _ => rfl), h3, h4, l1⟩

theorem region_code (hA : AllOK P E B) (hC : CallsOK P E B self) {id : Nat} (hi : Inv E B ρ st a w) : (cRegion ops E self ro st).Holds (CPost P E B b k cs (.region id ops false) ρ st a w) := by
  unfold cRegion
  refine (ops_ok (b := b) (k := k) (cs := cs) hA hC ops.toList 0 ρ st a w (fun n hn => by simp) hi).bind ?_
  rintro _ s ⟨ρ1, a1, w1, h1, h2, h3, l1⟩
  refine ⟨ρ1, a1, w1, _, .head stepR_region ?_, rfl, h2, h3, l1⟩
  rw [List.range_eq_range']
  simp only [Array.length_toList] at h1
  exact h1.trans (.one stepR_region_end)

end
end Go.Proofs.YtcedalofcekdkaaGreatDoor.Ex
end
