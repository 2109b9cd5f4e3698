/- What the executor knows of the program is so. -/
import Derived.Test.YtcedalofcekdkaaGreatDoorEnvT
import Derived.Test.YtcedalofcekdkaaGreatDoorCmpW
set_option linter.unusedSimpArgs false
set_option linter.unusedVariables false
namespace Go.Proofs.YtcedalofcekdkaaGreatDoor.Ex
set_option maxRecDepth 100000
noncomputable abbrev PP : Program := Go.Proofs.Tryz.prog

theorem flat348 : flatB PP 100 348 = some [.i .u16, .i .u16] := by kernel_rfl
theorem flat212 : flatB PP 100 212 = some [.i .i64, .i .i64, .b, .b, .b, .b, .b, .b, .b, .b, .b, .b, .b, .b, .b, .b, .b, .b, .i .i64] := by kernel_rfl
theorem flat374 : flatB PP 100 374 = some [.i .i64, .s, .i .i64] := by kernel_rfl
theorem flat296 : flatB PP 100 296 = some [.i .i64, .i .i64] := by kernel_rfl
theorem flat238 : flatB PP 100 238 = some [.i .i64] := by kernel_rfl
theorem guard348 : PP.eqGuardType PP.depth 348 = false := by kernel_rfl
theorem guard212 : PP.eqGuardType PP.depth 212 = false := by kernel_rfl
theorem guard374 : PP.eqGuardType PP.depth 374 = false := by kernel_rfl
theorem guard296 : PP.eqGuardType PP.depth 296 = false := by kernel_rfl
theorem guard238 : PP.eqGuardType PP.depth 238 = false := by kernel_rfl
theorem und348 : (PP.underlying 348).map aggD = some true := by kernel_rfl
theorem und212 : (PP.underlying 212).map aggD = some true := by kernel_rfl
theorem und374 : (PP.underlying 374).map aggD = some true := by kernel_rfl
theorem und296 : (PP.underlying 296).map aggD = some true := by kernel_rfl
theorem und238 : (PP.underlying 238).map aggD = some false := by kernel_rfl
theorem cmp238 : (PP.info? 238).map (·.comparable) = some true := by kernel_rfl

theorem of_map {α : Type} {o : Option α} {f : α → Bool} {b : Bool} (h : o.map f = some b) : ∃ d, o = some d ∧ f d = b := by
  cases o with
  | none => simp at h
  | some d => exact ⟨d, rfl, by simpa using h⟩

theorem cond_some {α : Type} {b : Bool} {x y : Option α} {r : α} (h : (bif b then x else y) = some r) : (b = true ∧ x = some r) ∨ (b = false ∧ y = some r) := by
  cases b
  · exact .inr ⟨rfl, h⟩
  · exact .inl ⟨rfl, h⟩

theorem eqs_ok (s : Nat → List AV → Option AV) : EqOK PP (envOf s) := by
  have agg : ∀ {t : Nat} {ks l : List CK}, flatB PP 100 t = some l → PP.eqGuardType PP.depth t = false → (PP.underlying t).map aggD = some true → ks = l → l.length ≠ 1 →
      flatB PP 100 t = some ks ∧ PP.eqGuardType PP.depth t = false ∧ (ks.length = 1 → ∃ i, PP.info? t = some i ∧ i.comparable = true) ∧ ∃ d, PP.underlying t = some d ∧ (ks.length ≠ 1 → aggD d = true) ∧ (ks.length = 1 → aggD d = false) := by
    intro t ks l h1 h2 h3 h4 h5
    subst h4
    obtain ⟨d, hd, ha⟩ := of_map h3
    exact ⟨h1, h2, fun e => absurd e h5, d, hd, fun _ => ha, fun e => absurd e h5⟩
  refine eq_of_flat fun t ks h => ?_
  have h : eqTab t = some ks := h
  unfold eqTab at h
  rcases cond_some h with ⟨e, h⟩ | ⟨_, h⟩
  · have := Nat.eq_of_beq_eq_true e; subst this
    exact agg flat348 guard348 und348 (by simpa using h.symm) (by simp)
  rcases cond_some h with ⟨e, h⟩ | ⟨_, h⟩
  · have := Nat.eq_of_beq_eq_true e; subst this
    exact agg flat212 guard212 und212 (by simpa using h.symm) (by simp)
  rcases cond_some h with ⟨e, h⟩ | ⟨_, h⟩
  · have := Nat.eq_of_beq_eq_true e; subst this
    exact agg flat374 guard374 und374 (by simpa using h.symm) (by simp)
  rcases cond_some h with ⟨e, h⟩ | ⟨_, h⟩
  · have := Nat.eq_of_beq_eq_true e; subst this
    exact agg flat296 guard296 und296 (by simpa using h.symm) (by simp)
  rcases cond_some h with ⟨e, h⟩ | ⟨_, h⟩
  · have := Nat.eq_of_beq_eq_true e; subst this
    simp at h; subst h
    obtain ⟨d, hd, ha⟩ := of_map und238
    obtain ⟨i, hi, hc⟩ := of_map cmp238
    exact ⟨flat238, guard238, fun _ => ⟨i, hi, hc⟩, d, hd, fun e => absurd rfl e, fun _ => ha⟩
  · cases h

theorem ti155 : Tr.get tiN0 155 = some tiNe155 := by kernel_rfl
theorem lies155 : liesAt PP PP.depth 155 (tiNe155.size / PP.cellsOf 155) 0 155 1 = true := by kernel_rfl
theorem cells5 : PP.cellsOf 5 = 1 := by kernel_rfl
theorem und5 : PP.underlying 5 = some (.int .u8) := by kernel_rfl

theorem libs_ok (s : Nat → List AV → Option AV) : LibOK PP (envOf s) := by
  refine ⟨fun ty u i h1 h2 => ?_, fun ty h => ?_⟩
  · have h1 : (Nat.beq ty 155 && Nat.beq u 155) = true := h1
    simp only [Bool.and_eq_true] at h1
    have e1 := Nat.eq_of_beq_eq_true h1.1
    have e2 := Nat.eq_of_beq_eq_true h1.2
    subst e1; subst e2
    have h2 : Tr.get tiN0 155 = some i := h2
    rw [ti155] at h2; cases h2
    exact lies155
  · have e1 := Nat.eq_of_beq_eq_true (show Nat.beq ty 5 = true from h)
    subst e1
    exact ⟨cells5, und5⟩

theorem rows_ok (s : Nat → List AV → Option AV) : RowOK PP (envOf s) := by
  refine ⟨fun ty u c off n h1 h2 hc => ?_⟩
  have e1 := Nat.eq_of_beq_eq_true (show Nat.beq ty 5 = true from h1)
  have e2 := Nat.eq_of_beq_eq_true (show Nat.beq u 5 = true from h2)
  subst e1; subst e2
  have hd : PP.depth = (2 * (PP.types.size + Made.depth) + 1) + 1 := rfl
  rw [hd]
  simp only [liesAt, Bool.or_eq_true]
  left
  rw [hd]
  have h5 := cells5
  generalize PP = Q at h5 ⊢
  simp [rowAt, h5, Nat.mod_one, hc, sameLayout]

theorem f261a : (Go.Proofs.Tryz.f261.name == "runtime.NumGoroutine") = false := by kernel_rfl
theorem f261b : Go.Proofs.Tryz.f261.body.isNone = true := by kernel_rfl
theorem f261c : Extern.findNext Go.Proofs.Tryz.f261 = none := by kernel_rfl
theorem f261d : Extern.find Go.Proofs.Tryz.f261 = some (Extern.BytealgMakeNoZero.makeNoZero Go.Proofs.Tryz.f261.params #[153]) := by kernel_rfl
theorem und153 : PP.underlying 153 = some (.slice 5) := by kernel_rfl
theorem f260a : (Go.Proofs.Tryz.f260.name == "runtime.NumGoroutine") = false := by kernel_rfl
theorem f260b : Go.Proofs.Tryz.f260.body.isNone = true := by kernel_rfl
theorem f260c : Extern.findNext Go.Proofs.Tryz.f260 = none := by kernel_rfl
theorem f260d : Extern.find Go.Proofs.Tryz.f260 = some Extern.AbiNoEscape.same := by kernel_rfl
theorem f251a : (Go.Proofs.Tryz.f251.name == "runtime.NumGoroutine") = false := by kernel_rfl
theorem f251b : Go.Proofs.Tryz.f251.body.isNone = true := by kernel_rfl
theorem f251c : Extern.findNext Go.Proofs.Tryz.f251 = none := by kernel_rfl
theorem f251d : Extern.find Go.Proofs.Tryz.f251 = some Extern.BytealgCount.count := by kernel_rfl
theorem f394a : (Go.Proofs.Tryz.f394.name == "runtime.NumGoroutine") = false := by kernel_rfl
theorem f394b : Go.Proofs.Tryz.f394.body.isNone = true := by kernel_rfl
theorem f394c : Extern.findNext Go.Proofs.Tryz.f394 = none := by kernel_rfl
theorem f394d : Extern.find Go.Proofs.Tryz.f394 = some Extern.BytealgIndexByte.indexByte := by kernel_rfl
theorem mixed : PP.follows .mixedOrders = true := by kernel_rfl

theorem name_ne {f : Func} (h : (f.name == "runtime.NumGoroutine") = false) : f.name ≠ "runtime.NumGoroutine" := by simpa using h
theorem body_none {f : Func} (h : f.body.isNone = true) : f.body = none := by simpa using h

theorem exts_ok (s : Nat → List AV → Option AV) : ExtOK PP (envOf s) := by
  refine ⟨fun f ty h => ?_, fun f h => ?_⟩
  · have h : (bif Nat.beq f 261 then some 5 else none) = some ty := h
    rcases cond_some h with ⟨e, h⟩ | ⟨_, h⟩
    · have := Nat.eq_of_beq_eq_true e; subst this
      cases h
      exact ⟨_, 153, _, Go.Proofs.Tryz.func261, name_ne f261a, body_none f261b, f261c, f261d, und153⟩
    · cases h
  · have := Nat.eq_of_beq_eq_true (show Nat.beq f 260 = true from h); subst this
    exact ⟨_, Go.Proofs.Tryz.func260, name_ne f260a, body_none f260b, f260c, f260d⟩

variable {B : Nat}

theorem all_ok (s : Nat → List AV → Option AV) : AllOK PP (envOf s) B where
  env := ⟨fun f F h => fnN0_ok.get f F h, fun t i h => (tiOf_ok (tiN0_ok.get t i h)).1⟩
  eq := eqs_ok s
  zero := ⟨fun t i zv w h1 h2 h3 => (tiOf_ok (tiN0_ok.get t i h1)).2 h2 zv w h3⟩
  lib := libs_ok s
  row := rows_ok s

theorem ext_summ {s : Nat → List AV → Option AV} {f : Nat} {fn : Func} {e : Array Value → Sem Value} (hf : PP.funcs[f]? = some fn) (h1 : (fn.name == "runtime.NumGoroutine") = false) (h2 : fn.body.isNone = true) (h3 : Extern.findNext fn = none)
    (h4 : Extern.find fn = some e) {v : AV} {x : Value} {xs : Array Value} (hx : ∀ w, (e xs).run PP w = .ok x w) {fr : Frame} {cs : List Frame} {ρ : Ren} {st : St} {w : World} (hh : HRs (envOf s) B ρ st w) (hv : VR ρ v x) :
    InvPost PP (envOf s) B (.fn (.func f) #[]) xs fr cs ρ st w v st := by
  refine ⟨ρ, w, x, hv, hh, Ev.refl _ _ _ _, .refl _, .inl ?_⟩
  have := run_callFunc_extern hf h1 h2 h3 h4 xs w
  rw [hx] at this
  simpa [invoke] using this

theorem bytes_list (l : List Nat) : (bytes l).data.toList = l.map UInt8.ofNat := by simp [bytes]

theorem summ0_ok {s : Nat → List AV → Option AV} {f : Nat} {args : List AV} {v : AV} {xs : List Value} {fr : Frame} {cs : List Frame} {ρ : Ren} {st : St} {w : World} (h : summ0 f args = some v) (hh : HRs (envOf s) B ρ st w) (hx : VRL ρ args xs) :
    InvPost PP (envOf s) B (.fn (.func f) #[]) xs.toArray fr cs ρ st w v st := by
  unfold summ0 at h
  rcases cond_some h with ⟨e, h⟩ | ⟨_, h⟩
  · have := Nat.eq_of_beq_eq_true e; subst this
    split at h
    · rename_i l c _
      cases h
      cases hx with | cons _ _ _ _ h1 h2 => cases h2 with | cons _ _ _ _ h2 h3 =>
        cases h3; cases h1; cases h2
        refine ext_summ Go.Proofs.Tryz.func251 f251a f251b f251c f251d (x := .int .i64 (Lib.countByte (l.map UInt8.ofNat) c.toUInt8 : Nat)) (fun w => ?_) hh (.int _ _)
        rw [show (#[Value.string (bytes l), Value.int .u8 (Int.ofNat c)] : Array Value) = #[.string (bytes l), .int .u8 c] from rfl, Lib.run_countString, bytes_list]
        rfl
    · cases h
  rcases cond_some h with ⟨e, h⟩ | ⟨_, h⟩
  · have := Nat.eq_of_beq_eq_true e; subst this
    split at h
    · rename_i l c _ _
      cases h
      cases hx with | cons _ _ _ _ h1 h2 => cases h2 with | cons _ _ _ _ h2 h3 =>
        cases h3; cases h1; cases h2
        refine ext_summ Go.Proofs.Tryz.func394 f394a f394b f394c f394d (x := .int .i64 (Lib.indexByte (l.map UInt8.ofNat) c.toUInt8)) (fun w => ?_) hh (.int _ _)
        rw [show (#[Value.string (bytes l), Value.int .u8 (Int.ofNat c)] : Array Value) = #[.string (bytes l), .int .u8 c] from rfl, Lib.run_indexByteString, bytes_list]
        rfl
    · cases h
  · cases h

theorem place0 : PlaceOK PP E0 B :=
  ⟨all_ok summ0, exts_ok summ0, mixed, fun f args v xs fr cs ρ st w h hh hx => summ0_ok h hh hx⟩

noncomputable def retTrue (o : Out AV) : Bool :=
  match o with
  | .one (.bool true) _ => true
  | _ => false

theorem retTrue_ok {o : Out AV} (h : retTrue o = true) : ∃ s, o = .one (.bool true) s := by
  unfold retTrue at h
  split at h
  · exact ⟨_, rfl⟩
  · cases h

theorem nameA : retTrue (callB E0 (F.ex E0 100000) 207 [.str [97]] .bare) = true := by kernel_rfl

theorem glob_plain (s : Nat → List AV → Option AV) : ∀ g cs v, (envOf s).glob g = some cs → v ∈ cs → noName v = true := by
  intro g cs v h hv
  have h : globT g = some cs := h
  have hz : ∀ (n : Nat) (l : List AV), (∀ v, v ∈ l → noName v = true) → ∀ v, v ∈ zeros n l → noName v = true := by
    intro n
    induction n with
    | zero => intro l hl; exact hl
    | succ n ih =>
      intro l hl v hv
      rcases List.mem_cons.1 hv with rfl | hv
      · rfl
      · exact ih l hl v hv
  have hc : ∀ (l : List AV), (∀ v, v ∈ l → noName v = true) → ∀ v, v ∈ (AV.int .u8 (.ofNat 1) :: l) → noName v = true := by
    intro l hl v hv
    rcases List.mem_cons.1 hv with rfl | hv
    · rfl
    · exact hl v hv
  unfold globT at h
  rcases cond_some h with ⟨_, h⟩ | ⟨_, h⟩
  · cases h
    exact hz _ _ (hc _ (hc _ (hc _ (hc _ (hc _ (hz _ _ (hc _ (hz _ _ (fun v hv => by cases hv))))))))) v hv
  rcases cond_some h with ⟨_, h⟩ | ⟨_, h⟩
  · cases h
    rcases List.mem_cons.1 hv with rfl | hv
    · rfl
    · cases hv
  · cases h

theorem fn135 : Tr.get fnN0 135 = some fnNe135 := by kernel_rfl
theorem place1 : PlaceOK PP E1 B := by
  refine ⟨all_ok summ1, exts_ok summ1, mixed, fun f args v xs fr cs ρ st w h0 hh hx => ?_⟩
  have h0 : (bif Nat.beq f 135 then cmp2 args else bif Nat.beq f 207 then (bif isA args then some (.bool true) else none) else summ0 f args) = some v := h0
  rcases cond_some h0 with ⟨e, h2⟩ | ⟨_, h1⟩
  · have := Nat.eq_of_beq_eq_true e
    subst this
    clear h0
    unfold cmp2 at h2
    split at h2
    · rename_i a b
      cases h2
      cases hx with | cons _ _ _ _ g1 g2 => cases g2 with | cons _ _ _ _ g2 g3 =>
        cases g3; cases g1; cases g2
        refine summ_calls fr cs (fun w => ?_) (Go.Proofs.YtcedalofcekdkaaGreatDoor.cmp_calls a b w) (.int _ _) hh
        obtain ⟨F, hF⟩ : ∃ F, (envOf summ1).fn 135 = some F := ⟨_, fn135⟩
        obtain ⟨g, hg, hbody, _, _, hcall⟩ := (all_ok (B := B) summ1).env.fn 135 F hF
        simp [invoke, hcall]
    · cases h2
  clear h0
  rcases cond_some h1 with ⟨e, h2⟩ | ⟨_, h2⟩
  · have := Nat.eq_of_beq_eq_true e
    subst this
    clear h1
    rcases cond_some h2 with ⟨ha, h3⟩ | ⟨_, h3⟩
    · have hv : v = .bool true := by simpa using h3.symm
      subst hv
      obtain ⟨s, hs⟩ := retTrue_ok nameA
      rw [F.ex_eq] at hs
      have hargs : args = [.str [97]] := by
        unfold isA at ha
        split at ha
        · rename_i c; rw [Nat.eq_of_beq_eq_true ha]
        · cases ha
      subst hargs
      exact summ_ok (E := E1) (E0 := E0) rfl (glob_plain summ1) (place0 (B := B)).all (ex_ok place0 100000) (rest_ok place0 (ex_ok place0 100000)) fr cs (fun v hv => by
        rcases List.mem_cons.1 hv with rfl | hv
        · rfl
        · cases hv) rfl hs hh hx
    · cases h3
  · exact summ0_ok h2 hh hx

end Go.Proofs.YtcedalofcekdkaaGreatDoor.Ex
