/- Flat equality, runs in pieces, tables of functions and types. -/
import Derived.Test.YtcedalofcekdkaaGreatDoorExP4
import Derived.Test.YtcedalofcekdkaaGreatDoorExB
set_option linter.unusedSimpArgs false
set_option linter.unusedVariables false
section
namespace Go.Proofs.YtcedalofcekdkaaGreatDoor.Ex

def repL' (ks : List CK) : Nat → List CK
  | 0 => []
  | n + 1 => ks ++ repL' ks n

def fieldsF (g : Nat → Option (List CK)) : List Field → Nat → Option (List CK)
  | [], _ => some []
  | f :: fs, off => match f.name == "_", Nat.beq f.offset off, g f.type with
    | false, true, some ks => match fieldsF g fs (off + lenL ks) with
      | some r => some (ks ++ r)
      | none => none
    | _, _, _ => none

def sizeIs (P : Program) (t : Nat) (l : List CK) : Option (List CK) :=
  match P.info? t with
  | some i => match Nat.beq i.size (lenL l), Nat.blt 0 (lenL l) with
    | true, true => some l
    | _, _ => none
  | none => none

def flatB (P : Program) : Nat → Nat → Option (List CK)
  | 0, _ => none
  | d + 1, t => match P.underlying t with
    | some .bool => sizeIs P t [.b]
    | some (.int k) => sizeIs P t [.i k]
    | some .string => sizeIs P t [.s]
    | some (.array n e) => match flatB P d e with
      | some ks => sizeIs P t (repL' ks n)
      | none => none
    | some (.struct fs) => match P.stoodInHeld t with
      | true => none
      | false => match fieldsF (flatB P d) fs.toList 0 with
        | some l => sizeIs P t l
        | none => none
    | _ => none

def vOf (P : Program) (t : Nat) (xs : List Value) : Value :=
  match P.underlying t with
  | some d => if aggD d then .agg xs.toArray else xs.headD undef
  | none => undef

def eqAll : List AV → List AV → Bool
  | x :: xs, y :: ys => (scalEq x y == some true) && eqAll xs ys
  | _, _ => true

abbrev Has (ks : List CK) (l : List AV) : Prop := cellsEq.haveAll ks l = true

theorem Has.length : ∀ {ks : List CK} {l : List AV}, Has ks l → l.length = ks.length
  | [], [], _ => rfl
  | [], _ :: _, h => by simp [Has, cellsEq.haveAll] at h
  | _ :: _, [], h => by simp [Has, cellsEq.haveAll] at h
  | c :: cs, x :: xs, h => by
    simp only [Has, cellsEq.haveAll] at h
    cases hc : c.has x with
    | false => simp [hc] at h
    | true => simp only [hc] at h; simp [Has.length h]

theorem Has.cons {c : CK} {cs : List CK} {x : AV} {xs : List AV} : Has (c :: cs) (x :: xs) ↔ c.has x = true ∧ Has cs xs := by
  simp only [Has, cellsEq.haveAll]
  cases hc : c.has x <;> simp

theorem Has.append : ∀ {ks r : List CK} {l : List AV}, Has (ks ++ r) l ↔ Has ks (l.take ks.length) ∧ Has r (l.drop ks.length)
  | [], r, l => by simp [Has, cellsEq.haveAll]
  | c :: ks, r, [] => by simp [Has, cellsEq.haveAll]
  | c :: ks, r, x :: xs => by
    simp only [List.cons_append, Has.cons, List.length_cons, List.take_succ_cons, List.drop_succ_cons, Has.append (ks := ks), and_assoc]

theorem eqAll_append : ∀ {n : Nat} {l m : List AV}, l.length = m.length → eqAll l m = (eqAll (l.take n) (m.take n) && eqAll (l.drop n) (m.drop n))
  | 0, l, m, _ => by simp [eqAll]
  | n + 1, [], [], _ => by simp [eqAll]
  | n + 1, x :: l, y :: m, h => by
    simp only [eqAll, List.take_succ_cons, List.drop_succ_cons, Bool.and_assoc]
    rw [eqAll_append (n := n) (l := l) (m := m) (by simpa using h)]
  | n + 1, [], _ :: _, h => by simp at h
  | n + 1, _ :: _, [], h => by simp at h

theorem cellsEq_some : ∀ {ks : List CK} {l m : List AV} {r : Bool}, cellsEq ks l m = some r → Has ks l ∧ Has ks m ∧ r = eqAll l m
  | [], [], [], r, h => by simp [cellsEq] at h; subst h; exact ⟨rfl, rfl, rfl⟩
  | c :: cs, x :: xs, y :: ys, r, h => by
    simp only [cellsEq] at h
    cases hc : (c.has x && c.has y) with
    | false => simp [hc] at h
    | true =>
      simp only [hc] at h
      simp only [Bool.and_eq_true] at hc
      cases hs : scalEq x y with
      | none => simp [hs] at h
      | some b =>
        cases b with
        | true =>
          simp only [hs] at h
          obtain ⟨h1, h2, h3⟩ := cellsEq_some h
          exact ⟨Has.cons.2 ⟨hc.1, h1⟩, Has.cons.2 ⟨hc.2, h2⟩, by simp [eqAll, hs, h3]⟩
        | false =>
          simp only [hs] at h
          cases ha : (cellsEq.haveAll cs xs && cellsEq.haveAll cs ys) with
          | false => simp [ha] at h
          | true =>
            simp only [ha] at h
            simp at h; subst h
            simp only [Bool.and_eq_true] at ha
            exact ⟨Has.cons.2 ⟨hc.1, ha.1⟩, Has.cons.2 ⟨hc.2, ha.2⟩, by simp [eqAll, hs]⟩
  | [], [], _ :: _, r, h => by simp [cellsEq] at h
  | [], _ :: _, _, r, h => by simp [cellsEq] at h
  | _ :: _, [], _, r, h => by simp [cellsEq] at h
  | _ :: _, _ :: _, [], r, h => by simp [cellsEq] at h

def eqElems (n e k : Nat) (xs ys : Array Value) : List Nat → Sem Bool
  | [] => pure true
  | j :: js => do
    let a ← part e xs (j * k)
    let b ← part e ys (j * k)
    let r ← Op.equalIn n e a b
    if (!r) = true then pure false else eqElems n e k xs ys js
theorem run_equalIn_array {P : Program} (w : World) (d t len e k : Nat) (xs ys : Array Value) (hu : P.underlying t = some (.array len e)) (hk : ∀ w : World, (sizeOf e).run P w = .ok k w) :
    (Op.equalIn (d + 1) t (.agg xs) (.agg ys)).run P w = (eqElems d e k xs ys (List.range' 0 len)).run P w := by
  simp only [Op.equalIn, Sem.run_bind, run_underlying hu, Result.andThen_ok, hk]
  rw [Std.Legacy.Range.forIn_eq_forIn_range']
  simp only [Std.Legacy.Range.size, Nat.sub_zero, Nat.add_sub_cancel, Nat.div_one]
  generalize List.range' 0 len = js
  induction js generalizing w with
  | nil => simp [eqElems]
  | cons f fs ih =>
    simp only [List.forIn_cons, eqElems, Sem.run_bind, Sem.run_ite]
    generalize (part e xs (f * k)).run P w = r1
    cases r1 with
    | ok a w1 =>
      simp only [Result.andThen_ok]
      generalize (part e ys (f * k)).run P w1 = r2
      cases r2 with
      | ok b w2 =>
        simp only [Result.andThen_ok]
        generalize (Op.equalIn d e a b).run P w2 = r3
        cases r3 with
        | ok r w3 =>
          cases r
          · simp only [Result.andThen_ok, Bool.not_false, if_true, Sem.run_pure]
          · simp only [Result.andThen_ok, Bool.not_true, Bool.false_eq_true, if_false, Sem.run_pure]
            exact ih w3
        | halt x w3 => simp [Result.andThen]
      | halt x w2 => simp [Result.andThen]
    | halt x w1 => simp [Result.andThen]

section
variable {P : Program} {ρ : Ren}

theorem sizeIs_ok {t : Nat} {l ks : List CK} (h : sizeIs P t l = some ks) : l = ks ∧ 0 < ks.length ∧ ∀ w : World, (sizeOf t).run P w = .ok ks.length w := by
  unfold sizeIs at h
  split at h
  · rename_i i hi
    split at h
    · rename_i h1 h2
      simp at h; subst h
      have e1 := Nat.eq_of_beq_eq_true h1
      rw [lenL_eq] at e1
      simp [Nat.blt, lenL_eq] at h2
      exact ⟨rfl, by omega, fun w => by simp [sizeOf, typeInfo, hi, e1]⟩
    · cases h
  · cases h

theorem flatB_size : ∀ {d t : Nat} {ks : List CK}, flatB P d t = some ks → (∃ D, P.underlying t = some D ∧ (aggD D = false → ks.length = 1)) ∧ 0 < ks.length ∧ ∀ w : World, (sizeOf t).run P w = .ok ks.length w
  | 0, _, _, h => by simp [flatB] at h
  | d + 1, t, ks, h => by
    simp only [flatB] at h
    split at h
    · rename_i hu; obtain ⟨rfl, h1, h2⟩ := sizeIs_ok h; exact ⟨⟨_, hu, fun _ => rfl⟩, h1, h2⟩
    · rename_i hu; obtain ⟨rfl, h1, h2⟩ := sizeIs_ok h; exact ⟨⟨_, hu, fun _ => rfl⟩, h1, h2⟩
    · rename_i hu; obtain ⟨rfl, h1, h2⟩ := sizeIs_ok h; exact ⟨⟨_, hu, fun _ => rfl⟩, h1, h2⟩
    · rename_i hu
      split at h
      · obtain ⟨_, h1, h2⟩ := sizeIs_ok h; exact ⟨⟨_, hu, fun e => by simp [aggD] at e⟩, h1, h2⟩
      · cases h
    · rename_i hu
      split at h
      · cases h
      · split at h
        · obtain ⟨_, h1, h2⟩ := sizeIs_ok h; exact ⟨⟨_, hu, fun e => by simp [aggD] at e⟩, h1, h2⟩
        · cases h
    · cases h

theorem run_isAgg {t : Nat} {D : TypeDesc} (h : P.underlying t = some D) (w : World) : (isAgg t).run P w = .ok (aggD D) w := by
  simp only [isAgg, Sem.run_bind, run_underlying h, Result.andThen_ok]
  cases D <;> simp [aggD]

theorem run_part {d t off : Nat} {ks : List CK} {X : List Value} (h : flatB P d t = some ks) (hl : off + ks.length ≤ X.length) (w : World) :
    (part t X.toArray off).run P w = .ok (vOf P t ((X.drop off).take ks.length)) w := by
  obtain ⟨⟨D, hD, h1⟩, hpos, hs⟩ := flatB_size h
  simp only [part, Sem.run_bind, run_isAgg hD, Result.andThen_ok, vOf, hD]
  cases ha : aggD D with
  | true => simp [hs]
  | false =>
    have h1 := h1 ha
    have hlt : off < X.length := by omega
    rw [h1]
    have : (X.drop off).take 1 = [X[off]] := by
      rw [List.drop_eq_getElem_cons hlt]; rfl
    simp [this, hlt]

theorem VRL.two_parts {l : List AV} {X : List Value} (h : VRL ρ l X) (a b : Nat) : VRL ρ ((l.drop a).take b) ((X.drop a).take b) := (h.drop a).take b

theorem eq_flat : ∀ (d t : Nat) (ks : List CK), flatB P d t = some ks → ∀ (n : Nat), d ≤ n → ∀ (l m : List AV) (xs ys : List Value) (w : World), Has ks l → Has ks m → VRL ρ l xs → VRL ρ m ys →
    (Op.equalIn n t (vOf P t xs) (vOf P t ys)).run P w = .ok (eqAll l m) w
  | 0, t, ks, h, n, hn, l, m, xs, ys, w, hl, hm, hx, hy => by simp [flatB] at h
  | d + 1, t, ks, h, 0, hn, l, m, xs, ys, w, hl, hm, hx, hy => by omega
  | d + 1, t, ks, h, n + 1, hn, l, m, xs, ys, w, hl, hm, hx, hy => by
    have hn' : d ≤ n := by omega
    simp only [flatB] at h
    split at h
    ·
      rename_i hu
      obtain ⟨rfl, _, _⟩ := sizeIs_ok h
      obtain ⟨x, rfl⟩ : ∃ x, l = [x] := List.length_eq_one_iff.1 hl.length
      obtain ⟨y, rfl⟩ : ∃ y, m = [y] := List.length_eq_one_iff.1 hm.length
      have cx := (Has.cons.1 hl).1
      have cy := (Has.cons.1 hm).1
      cases hx with | cons _ x' _ _ hx hx0 => cases hx0; cases hy with | cons _ y' _ _ hy hy0 =>
        cases hy0
        cases x <;> simp [CK.has] at cx
        cases y <;> simp [CK.has] at cy
        cases hx; cases hy
        simp [vOf, hu, aggD, Op.equalIn, run_underlying hu, eqAll, scalEq]
    ·
      rename_i k hu
      obtain ⟨rfl, _, _⟩ := sizeIs_ok h
      obtain ⟨x, rfl⟩ : ∃ x, l = [x] := List.length_eq_one_iff.1 hl.length
      obtain ⟨y, rfl⟩ : ∃ y, m = [y] := List.length_eq_one_iff.1 hm.length
      have cx := (Has.cons.1 hl).1
      have cy := (Has.cons.1 hm).1
      cases hx with | cons _ x' _ _ hx hx0 => cases hx0; cases hy with | cons _ y' _ _ hy hy0 =>
        cases hy0
        cases x <;> simp [CK.has] at cx
        cases y <;> simp [CK.has] at cy
        have e1 := kindEq_ok cx
        have e2 := kindEq_ok cy
        subst e1; subst e2
        cases hx; cases hy
        simp [vOf, hu, aggD, Op.equalIn, run_underlying hu, eqAll, scalEq, cx, intEq_ok]
    ·
      rename_i hu
      obtain ⟨rfl, _, _⟩ := sizeIs_ok h
      obtain ⟨x, rfl⟩ : ∃ x, l = [x] := List.length_eq_one_iff.1 hl.length
      obtain ⟨y, rfl⟩ : ∃ y, m = [y] := List.length_eq_one_iff.1 hm.length
      have cx := (Has.cons.1 hl).1
      have cy := (Has.cons.1 hm).1
      cases hx with | cons _ x' _ _ hx hx0 => cases hx0; cases hy with | cons _ y' _ _ hy hy0 =>
        cases hy0
        cases x <;> simp [CK.has] at cx
        cases y <;> simp [CK.has] at cy
        cases hx; cases hy
        simp [vOf, hu, aggD, Op.equalIn, run_underlying hu, eqAll, scalEq, bytes_beq]
    ·
      rename_i len e hu
      split at h
      · rename_i ke he
        obtain ⟨hks, _, _⟩ := sizeIs_ok h
        subst hks
        obtain ⟨⟨De, hDe, _⟩, hpos, hse⟩ := flatB_size he
        have hv : ∀ zs, vOf P t zs = .agg zs.toArray := fun zs => by simp [vOf, hu, aggD]
        rw [hv, hv, run_equalIn_array w n t len e ke.length xs.toArray ys.toArray hu hse]
        have hxl := hx.length
        have hyl := hy.length
        have key : ∀ (c i : Nat), Has (repL' ke c) (l.drop (i * ke.length)) → Has (repL' ke c) (m.drop (i * ke.length)) → ∀ w : World,
            (eqElems n e ke.length xs.toArray ys.toArray (List.range' i c)).run P w = .ok (eqAll (l.drop (i * ke.length)) (m.drop (i * ke.length))) w := by
          intro c
          induction c with
          | zero =>
            intro i h1 h2 w
            have e1 := h1.length
            have e2 := h2.length
            rw [List.eq_nil_of_length_eq_zero e1, List.eq_nil_of_length_eq_zero e2]
            simp [eqElems, eqAll]
          | succ c ih =>
            intro i h1 h2 w
            have g1 := Has.append.1 h1
            have g2 := Has.append.1 h2
            rw [List.drop_drop] at g1 g2
            have len1 := h1.length
            have len2 := h2.length
            simp only [repL', List.length_drop, List.length_append] at len1 len2
            rw [List.range'_succ]
            simp only [eqElems, Sem.run_bind]
            rw [run_part he (by omega), Result.andThen_ok, run_part he (by omega), Result.andThen_ok]
            rw [eq_flat d e ke he n hn' _ _ _ _ w g1.1 g2.1 (hx.two_parts _ _) (hy.two_parts _ _), Result.andThen_ok]
            rw [eqAll_append (n := ke.length) (l := l.drop (i * ke.length)) (m := m.drop (i * ke.length)) (by simp; omega), List.drop_drop, List.drop_drop]
            have hi1 : i * ke.length + ke.length = (i + 1) * ke.length := by rw [Nat.add_mul, Nat.one_mul]
            rw [hi1] at g1 g2
            cases hq : eqAll ((l.drop (i * ke.length)).take ke.length) ((m.drop (i * ke.length)).take ke.length) with
            | false => simp
            | true =>
              simp only [Bool.not_true, Bool.false_eq_true, if_false, Bool.true_and]
              rw [hi1]
              exact ih (i + 1) g1.2 g2.2 w
        simpa using key len 0 (by simpa using hl) (by simpa using hm) w
      · cases h
    ·
      rename_i fs hu
      split at h
      · cases h
      · rename_i hst
        split at h
        · rename_i kf hf
          obtain ⟨hks, _, _⟩ := sizeIs_ok h
          subst hks
          have hfo : P.fieldsOf t = fs := by simp [Program.fieldsOf, hu]
          have hv : ∀ zs, vOf P t zs = .agg zs.toArray := fun zs => by simp [vOf, hu, aggD]
          rw [hv, hv, run_equalIn_struct w n t xs.toArray ys.toArray (by rw [hfo]; exact hu) hst, hfo]
          have key : ∀ (fl : List Field) (off : Nat) (kf : List CK), fieldsF (flatB P d) fl off = some kf → Has kf (l.drop off) → Has kf (m.drop off) → ∀ w : World,
              (Op.eqFields n xs.toArray ys.toArray fl).run P w = .ok (eqAll (l.drop off) (m.drop off)) w := by
            intro fl
            induction fl with
            | nil =>
              intro off kf hf h1 h2 w
              simp [fieldsF] at hf; subst hf
              have e1 := h1.length
              have e2 := h2.length
              rw [List.eq_nil_of_length_eq_zero e1, List.eq_nil_of_length_eq_zero e2]
              simp [Op.eqFields, eqAll]
            | cons f fl ih =>
              intro off kf hf h1 h2 w
              simp only [fieldsF] at hf
              split at hf
              · rename_i k1 hnm hoff hk1
                split at hf
                · rename_i r hr
                  simp at hf; subst hf
                  have eoff := Nat.eq_of_beq_eq_true hoff
                  rw [lenL_eq] at hr
                  have hne : f.name ≠ "_" := by simpa using hnm
                  have g1 := Has.append.1 h1
                  have g2 := Has.append.1 h2
                  rw [List.drop_drop] at g1 g2
                  have len1 := h1.length
                  have len2 := h2.length
                  simp only [List.length_drop, List.length_append] at len1 len2
                  have hxl := hx.length
                  have hyl := hy.length
                  have hpos := (flatB_size hk1).2.1
                  simp only [Op.eqFields]
                  rw [if_pos hne]
                  simp only [Sem.run_bind]
                  rw [eoff, run_part hk1 (by omega), Result.andThen_ok, run_part hk1 (by omega), Result.andThen_ok]
                  rw [eq_flat d f.type k1 hk1 n hn' _ _ _ _ w g1.1 g2.1 (hx.two_parts off k1.length) (hy.two_parts off k1.length), Result.andThen_ok]
                  rw [eqAll_append (n := k1.length) (l := l.drop off) (m := m.drop off) (by simp; omega), List.drop_drop, List.drop_drop]
                  cases hq : eqAll ((l.drop off).take k1.length) ((m.drop off).take k1.length) with
                  | false => simp
                  | true =>
                    simp only [Bool.not_true, Bool.false_eq_true, if_false, Bool.true_and]
                    exact ih (off + k1.length) r hr g1.2 g2.2 w
                · cases hf
              · cases hf
          simpa using key fs.toList 0 kf hf (by simpa using hl) (by simpa using hm) w
        · cases h
    · cases h

theorem key_flat (emp : Bool) : ∀ (d t : Nat) (ks : List CK), flatB P d t = some ks → ∀ (n : Nat), d ≤ n → ∀ (xs : List Value) (w : World), ks.length ≤ xs.length → (Instr.checkKey emp n t (vOf P t xs)).run P w = .ok () w
  | 0, t, ks, h, n, hn, xs, w, hl => by simp [flatB] at h
  | d + 1, t, ks, h, 0, hn, xs, w, hl => by omega
  | d + 1, t, ks, h, n + 1, hn, xs, w, hl => by
    have hn' : d ≤ n := by omega
    simp only [flatB] at h
    split at h
    · rename_i hu; simp [Instr.checkKey, vOf, hu, aggD, run_underlying hu]
    · rename_i k hu; simp [Instr.checkKey, vOf, hu, aggD, run_underlying hu]
    · rename_i hu; simp [Instr.checkKey, vOf, hu, aggD, run_underlying hu]
    · rename_i len e hu
      split at h
      · rename_i ke he
        obtain ⟨hks, _, _⟩ := sizeIs_ok h
        subst hks
        obtain ⟨_, hpos, hse⟩ := flatB_size he
        have hv : vOf P t xs = .agg xs.toArray := by simp [vOf, hu, aggD]
        rw [hv]
        simp only [Instr.checkKey, Sem.run_bind, run_underlying hu, Result.andThen_ok]
        rw [Std.Legacy.Range.forIn_eq_forIn_range']
        simp only [Std.Legacy.Range.size, Nat.sub_zero, Nat.add_sub_cancel, Nat.div_one]
        have key : ∀ (c i : Nat), i * ke.length + (repL' ke c).length ≤ xs.length → ∀ w : World,
            ((forIn (List.range' i c) PUnit.unit fun i __s => do
              let z ← sizeOf e
              let a ← part e xs.toArray (i * z)
              Instr.checkKey emp n e a
              pure (ForInStep.yield PUnit.unit)) : Sem PUnit).run P w = .ok PUnit.unit w := by
          intro c
          induction c with
          | zero => intro i h1 w; simp
          | succ c ih =>
            intro i h1 w
            simp only [repL', List.length_append] at h1
            rw [List.range'_succ, List.forIn_cons]
            simp only [Sem.run_bind, hse, Result.andThen_ok]
            rw [run_part he (by omega), Result.andThen_ok, key_flat emp d e ke he n hn' _ w (by simp; omega), Result.andThen_ok]
            simp only [Sem.run_pure, Result.andThen_ok]
            exact ih (i + 1) (by rw [Nat.add_mul]; omega) w
        exact (congrArg (fun r : Result PUnit => r.andThen fun _ w' => Sem.run P (pure ()) w') (key len 0 (by simpa using hl) w)).trans (by simp)
      · cases h
    · rename_i fs hu
      split at h
      · cases h
      · split at h
        · rename_i kf hf
          obtain ⟨hks, _, _⟩ := sizeIs_ok h
          subst hks
          have hv : vOf P t xs = .agg xs.toArray := by simp [vOf, hu, aggD]
          rw [hv]
          simp only [Instr.checkKey, Sem.run_bind, run_underlying hu, Result.andThen_ok]
          rw [← Array.forIn_toList]
          have key : ∀ (fl : List Field) (off : Nat) (kf : List CK), fieldsF (flatB P d) fl off = some kf → off + kf.length ≤ xs.length → ∀ w : World,
              ((forIn fl PUnit.unit fun f __s =>
                if f.name ≠ "_" then do
                  let a ← part f.type xs.toArray f.offset
                  Instr.checkKey emp n f.type a
                  pure (ForInStep.yield PUnit.unit)
                else pure (ForInStep.yield PUnit.unit)) : Sem PUnit).run P w = .ok PUnit.unit w := by
            intro fl
            induction fl with
            | nil => intro off kf hf h1 w; simp
            | cons f fl ih =>
              intro off kf hf h1 w
              simp only [fieldsF] at hf
              split at hf
              · rename_i k1 hnm hoff hk1
                split at hf
                · rename_i r hr
                  simp at hf; subst hf
                  have eoff := Nat.eq_of_beq_eq_true hoff
                  rw [lenL_eq] at hr
                  have hne : f.name ≠ "_" := by simpa using hnm
                  simp only [List.length_append] at h1
                  rw [List.forIn_cons]
                  simp only [Sem.run_bind, if_pos hne]
                  rw [eoff, run_part hk1 (by omega), Result.andThen_ok, key_flat emp d f.type k1 hk1 n hn' _ w (by simp; omega), Result.andThen_ok]
                  simp only [Sem.run_pure, Result.andThen_ok]
                  exact ih (off + k1.length) r hr (by omega) w
                · cases hf
              · cases hf
          exact (congrArg (fun r : Result PUnit => r.andThen fun _ w' => Sem.run P (pure ()) w') (key fs.toList 0 kf hf (by simpa using hl) w)).trans (by simp)
        · cases h
    · cases h

theorem eq_of_flat {E : Env} (h : ∀ t ks, E.eqT t = some ks → flatB P 100 t = some ks ∧ P.eqGuardType P.depth t = false ∧ (ks.length = 1 → ∃ i, P.info? t = some i ∧ i.comparable = true) ∧ ∃ d, P.underlying t = some d ∧ (ks.length ≠ 1 → aggD d = true) ∧ (ks.length = 1 → aggD d = false)) : EqOK P E := by
  have hsc : ∀ {ρ : Ren} {c : CK} {x : AV} {v : Value} {t : Nat} {d : TypeDesc}, P.underlying t = some d → aggD d = false → c.has x = true → VR ρ x v → vOf P t [v] = v := by
    intro ρ c x v t d hd ha _ _
    simp [vOf, hd, ha]
  refine ⟨fun t ks e => ?_, fun t ks l m r w ρ xs ys e hag hc hx hy => ?_, fun t c x y r w ρ cx cy e h1 h2 hs hx hy => ?_, fun t ks l emp w ρ xs e hh hx => ?_⟩
  · obtain ⟨_, _, _, d, hd, _⟩ := h t ks e; exact ⟨d, hd⟩
  · obtain ⟨hf, hg, _, d, hd, ha, ha1⟩ := h t ks e
    obtain ⟨h1, h2, rfl⟩ := cellsEq_some hc
    refine ⟨hg, ?_⟩
    obtain ⟨d', hd', hagg⟩ := hag
    have hv : ∀ zs : List Value, vOf P t zs = .agg zs.toArray := fun zs => by simp [vOf, hd', hagg]
    have := eq_flat 100 t ks hf 10000 (by omega) l m xs ys w h1 h2 hx hy
    rwa [hv, hv] at this
  · obtain ⟨hf, hg, hc, d, hd, _, ha1⟩ := h t [c] e
    obtain ⟨i, hi, hcmp⟩ := hc rfl
    refine ⟨i, hi, hcmp, ?_⟩
    have := eq_flat 100 t [c] hf 9999 (by omega) [x] [y] [cx] [cy] w (by simp [Has, cellsEq.haveAll, h1]) (by simp [Has, cellsEq.haveAll, h2]) (.cons _ _ _ _ hx .nil) (.cons _ _ _ _ hy .nil)
    rw [hsc hd (ha1 rfl) h1 hx, hsc hd (ha1 rfl) h2 hy] at this
    rw [this]
    simp [eqAll, hs]
  · obtain ⟨hf, _, _, d, hd, ha, ha1⟩ := h t ks e
    by_cases hl : ks.length = 1
    ·
      have hnag := ha1 hl
      obtain ⟨n, hn⟩ : ∃ n, n = 9999 := ⟨_, rfl⟩
      rw [show (10000 : Nat) = n + 1 by omega]
      simp only [Instr.checkKey, Sem.run_bind, run_underlying hd, Result.andThen_ok]
      have hni : ∀ ms, d ≠ .interface ms := by
        intro ms e; subst e
        have h0 : flatB P (99 + 1) t = none := by
          unfold flatB
          rw [hd]
        rw [h0] at hf; cases hf
      cases d <;> first | (simp; done) | (simp [aggD] at hnag; done) | (exact absurd rfl (hni _))
    · have := key_flat emp 100 t ks hf 10000 (by omega) xs w (by rw [← hx.length, Has.length hh]; exact Nat.le_refl _)
      have hv : vOf P t xs = .agg xs.toArray := by simp [vOf, hd, ha hl]
      rwa [hv] at this

end
end Go.Proofs.YtcedalofcekdkaaGreatDoor.Ex
end

section
namespace Go.Proofs.YtcedalofcekdkaaGreatDoor.Ex

def subT {α : Type} (eq : α → α → Bool) : Tr α → Tr α → Bool
  | .lf, _ => true
  | .nd _ _ _, .lf => false
  | .nd v l r, .nd v' l' r' => match v with
    | none => subT eq l l' && subT eq r r'
    | some a => match v' with
      | none => false
      | some a' => eq a a' && (subT eq l l' && subT eq r r')

theorem subT_ok {α : Type} {eq : α → α → Bool} (he : ∀ a b, eq a b = true → a = b) : ∀ {s t : Tr α}, subT eq s t = true → ∀ (p : Pos) (a : α), Tr.at_ p s = some a → Tr.at_ p t = some a
  | .lf, t, _, p, a, h => by rw [Tr.at_lf] at h; cases h
  | .nd _ _ _, .lf, h, _, _, _ => by simp [subT] at h
  | .nd v l r, .nd v' l' r', h, p, a, hp => by
    have key : (∀ a, v = some a → v' = some a) ∧ subT eq l l' = true ∧ subT eq r r' = true := by
      simp only [subT] at h
      cases v with
      | none => simp only [Bool.and_eq_true] at h; exact ⟨fun a e => (by cases e), h.1, h.2⟩
      | some x =>
        cases v' with
        | none => simp at h
        | some y =>
          simp only [Bool.and_eq_true] at h
          exact ⟨fun a e => by cases e; rw [he _ _ h.1], h.2.1, h.2.2⟩
    cases p with
    | h => rw [Tr.at_h] at hp ⊢; exact key.1 a hp
    | o p => rw [Tr.at_o] at hp ⊢; exact subT_ok he key.2.1 p a hp
    | i p => rw [Tr.at_i] at hp ⊢; exact subT_ok he key.2.2 p a hp

def memEq (x y : Mem) : Bool := Nat.beq x.m y.m && (x.fx == y.fx && (Nat.beq x.rel y.rel && avsEq eqFuel x.cs y.cs))
def memsEq : List Mem → List Mem → Bool
  | [], [] => true
  | x :: xs, y :: ys => memEq x y && memsEq xs ys
  | _, _ => false
def goEq : GO → GO → Bool
  | .cells a b c, .cells a' b' c' => Nat.beq a a' && (Nat.beq b b' && memsEq c c')
  | .map a b, .map a' b' => entsEq a a' && Nat.beq b b'
  | _, _ => false

theorem memEq_ok {x y : Mem} (h : memEq x y = true) : x = y := by
  obtain ⟨a, b, c, d⟩ := x
  obtain ⟨a', b', c', d'⟩ := y
  simp only [memEq, Bool.and_eq_true] at h
  obtain ⟨h1, h2, h3, h4⟩ := h
  rw [Nat.eq_of_beq_eq_true h1, eq_of_beq h2, Nat.eq_of_beq_eq_true h3, avsEq_ok _ _ _ h4]

theorem memsEq_ok : ∀ {x y : List Mem}, memsEq x y = true → x = y
  | [], [], _ => rfl
  | [], _ :: _, h => by simp [memsEq] at h
  | _ :: _, [], h => by simp [memsEq] at h
  | x :: xs, y :: ys, h => by
    simp only [memsEq, Bool.and_eq_true] at h
    rw [memEq_ok h.1, memsEq_ok h.2]

theorem goEq_ok {x y : GO} (h : goEq x y = true) : x = y := by
  cases x <;> cases y <;> simp only [goEq, Bool.and_eq_true, Bool.false_eq_true] at h
  · obtain ⟨h1, h2, h3⟩ := h
    rw [Nat.eq_of_beq_eq_true h1, Nat.eq_of_beq_eq_true h2, memsEq_ok h3]
  · rw [entsEq_ok _ _ h.1, Nat.eq_of_beq_eq_true h.2]

structure Sub (s t : St) : Prop where
  ntm : s.ntm = t.ntm
  tm : ∀ i v, s.tm.get i = some v → t.tm.get i = some v
  hp : ∀ g o, s.hp.get g = some o → t.hp.get g = some o
  nx : s.nx = t.nx
  df : s.df = t.df

def isNil : List Nat → Bool
  | [] => true
  | _ :: _ => false

noncomputable def subB : St → St → Bool
  | ⟨ntm, tm, hp, nx, _, df⟩, ⟨ntm', tm', hp', nx', _, df'⟩ =>
    Nat.beq ntm ntm' && (Nat.beq nx nx' && (isNil df && (isNil df' && (subT (avEq eqFuel) tm tm' && subT goEq hp hp'))))

theorem subB_ok {s t : St} (h : subB s t = true) : Sub s t := by
  obtain ⟨ntm, tm, hp, nx, lg, df⟩ := s
  obtain ⟨ntm', tm', hp', nx', lg', df'⟩ := t
  simp only [subB, Bool.and_eq_true] at h
  obtain ⟨h1, h2, h3, h4, h5, h6⟩ := h
  refine ⟨Nat.eq_of_beq_eq_true h1, fun i v e => subT_ok (fun a b => avEq_ok _ a b) h5 _ v e, fun g o e => subT_ok (fun a b => goEq_ok) h6 _ o e, Nat.eq_of_beq_eq_true h2, ?_⟩
  have n1 : df = [] := by cases df <;> first | rfl | (simp [isNil] at h3)
  have n2 : df' = [] := by cases df' <;> first | rfl | (simp [isNil] at h4)
  show df = df'
  rw [n1, n2]

section
variable {P : Program} {E : Env} {B : Nat}

def Does (P : Program) (E : Env) (B : Nat) (c : Code) (st : St) (e : AE) (s : St) : Prop :=
  ∀ (b : Frame) (k : List Item) (cs : List Frame) (ρ : Ren) (a : Act) (w : World), Fr ρ none b → Inv E B ρ st a w →
    ∃ ρ' a' w' σ, Steps P (lone (b.atR a (.code c :: k)) cs w) σ ∧ Stands b k cs a' w' e σ ∧ Inv E B ρ' s a' w' ∧ Evs ρ st w ρ' s w'

theorem Does.of_run {self : Self} (hS : SelfOK P E B self) {c : Code} {st s : St} {e : AE} (h : self c none st = .one e s) : Does P E B c st e s := by
  intro b k cs ρ a w hf hi
  have := hS c none b k cs ρ st a w hf hi
  rw [h] at this
  obtain ⟨ρ', a', w', σ, h1, h2, h3, h4, _⟩ := this
  exact ⟨ρ', a', w', σ, h1, h2, h3, h4⟩

theorem Does.sub {c : Code} {st s s2 : St} {e : AE} (h : Does P E B c st e s) (hs : Sub s2 s) : Does P E B c st e s2 := by
  intro b k cs ρ a w hf hi
  obtain ⟨ρ', a', w', σ, h1, h2, h3, h4⟩ := h b k cs ρ a w hf hi
  refine ⟨ρ', a', w', σ, h1, h2, ⟨?_, ?_, ?_⟩, ?_⟩
  · rw [hs.ntm]; exact h3.tr.part hs.tm
  · rw [hs.df]; exact h3.df
  · rw [hs.nx]; exact h3.hr.weaken (Nat.le_refl _) hs.hp
  · unfold Evs at h4 ⊢; rw [hs.nx]; exact h4.sub hs.hp

theorem Does.seq {x y : Code} {st s s2 : St} {e : AE} (h : Does P E B x st .normal s) (h' : Does P E B y s e s2) : Does P E B (.seq x y) st e s2 := by
  intro b k cs ρ a w hf hi
  obtain ⟨ρ1, a1, w1, σ, h1, h2, h3, h4⟩ := h b (.code y :: k) cs ρ a w hf hi
  simp only [Stands] at h2; subst h2
  obtain ⟨ρ2, a2, w2, σ', g1, g2, g3, g4⟩ := h' b k cs ρ1 a1 w1 (hf.mono h4.le) h3
  exact ⟨ρ2, a2, w2, σ', .head stepR_seq (h1.trans g1), g2, g3, h4.trans g4⟩

noncomputable def goesOn (o : Out AE) (s2 : St) : Bool :=
  match o with
  | .one e s => match e with
    | .normal => subB s2 s
    | _ => false
  | _ => false

theorem Does.of_goesOn (h : PlaceOK P E B) {n : Nat} {c : Code} {st s2 : St} (hg : goesOn (F.ex E n c none st) s2 = true) : Does P E B c st .normal s2 := by
  unfold goesOn at hg
  rw [F.ex_eq] at hg
  split at hg
  · rename_i e s hr
    split at hg
    · exact (Does.of_run (ex_ok h n) hr).sub (subB_ok hg)
    · cases hg
  · cases hg

noncomputable def returnsB (o : Out AE) (t : Nat) (x : Bool) : Bool :=
  match o with
  | .one e s => match e with
    | .ret => match isNil s.df, Tr.get s.tm t with
      | true, some (.bool y) => x == y
      | _, _ => false
    | _ => false
  | _ => false

theorem Does.of_returnsB (h : PlaceOK P E B) {n : Nat} {c : Code} {st : St} {t : Nat} {x : Bool} (hg : returnsB (F.ex E n c none st) t x = true) : ∃ s, Does P E B c st .ret s ∧ s.df = [] ∧ s.tm.get t = some (.bool x) := by
  unfold returnsB at hg
  rw [F.ex_eq] at hg
  split at hg
  · rename_i e s hr
    split at hg
    · split at hg
      · rename_i y e1 e2
        have := eq_of_beq hg
        subst this
        refine ⟨s, Does.of_run (ex_ok h n) hr, ?_, e2⟩
        cases hd : s.df with
        | nil => rfl
        | cons _ _ => rw [hd] at e1; simp [isNil] at e1
      · cases hg
    · cases hg
  · cases hg

theorem call_ok (h : PlaceOK P E B) (hno : ∀ g cs v, E.glob g = some cs → v ∈ cs → noName v = true) {f : Nat} {F : AF} (hF : E.fn f = some F) {t : Nat} {x : Bool} (hres : F.res = [.tmp t]) {s : St}
    (hd : Does P E B F.body ⟨F.ntm, .lf, .lf, NG, [], []⟩ .ret s) (hdf : s.df = []) (ht : s.tm.get t = some (.bool x))
    {ρ : Ren} {st : St} {w : World} (hh : HRs E B ρ st w) (cs : List Frame) :
    ∃ w', Leaves P f #[] w cs (.bool x) w' ∧ HRs E B ρ st w' ∧ (∀ r, r < w.heap.size → w'.heap[r]? = w.heap[r]?) ∧ w.heap.size ≤ w'.heap.size ∧ w'.os = w.os ∧ w'.tape = w.tape ∧ w'.output = w.output := by
  obtain ⟨g, hg, hbody, hntm, hresg, _⟩ := h.all.env.fn f F hF
  have h0 : HRs E B (ρ.cut NG) .bare w := HR.bare rfl hno hh
  generalize hfr : Frame.enter P f #[] .normal = b0
  have hb0 : b0 = b0.atR { tmps := Array.replicate F.ntm undef, defers := [] } [.code F.body] := by
    rw [← hfr]; simp [Frame.enter, Frame.atR, hg, hbody, hntm]
  have hround : b0.roundOf = none := by rw [← hfr]; rfl
  have hkind : b0.kind = .normal := by rw [← hfr]; rfl
  have hfn : b0.fn = f := by rw [← hfr]; rfl
  have hinv : Inv E B (ρ.cut NG) ⟨F.ntm, .lf, .lf, NG, [], []⟩ { tmps := Array.replicate F.ntm undef, defers := [] } w :=
    ⟨⟨by simp, fun t v e => by simp at e⟩, ⟨[], rfl, rfl, fun i g b e => by simp at e⟩, h0⟩
  obtain ⟨ρ1, a1, w1, σ, h1, h2, h3, h4⟩ := hd b0 [] cs (ρ.cut NG) _ w hround hinv
  rw [← hb0, ← hfr] at h1
  obtain ⟨k', rfl⟩ := h2
  have hdefers : a1.defers = [] := by
    obtain ⟨bs, e1, e2, _⟩ := h3.df
    rw [hdf] at e2
    have : bs = [] := List.eq_nil_of_length_eq_zero e2
    rw [e1, this]; rfl
  have hx : a1.tmps.getD t undef = .bool x := by
    obtain ⟨y, hy, hv⟩ := h3.tr.val t _ ht
    cases hv
    simp [Array.getD_eq_getD_getElem?, hy]
  have hq : ∀ r, r < w.heap.size → w1.heap[r]? = w.heap[r]? := fun r hr => h4.frame r hr (by
    rintro ⟨g, o, m, L, hgo, _⟩
    simp at hgo)
  have hresults : (results g a1.tmps).run P w1 = .ok (.bool x) w1 := by
    rw [results_eq]
    have hgr : g.results = #[.tmp t] := by
      apply Array.ext'; rw [hresg, hres]
    rw [hgr]
    simp [resOne, hx]
  refine ⟨w1, ⟨_, h1.trans (.one (stepR_ret hround)), hfn, ⟨rfl, hdefers, hkind, g, by rw [← hfn] at hg; exact hg, hresults⟩⟩, HR.quiet hh h4.size hq, hq, h4.size, h4.os, h4.tape, h4.output⟩

end
end Go.Proofs.YtcedalofcekdkaaGreatDoor.Ex
end

section
namespace Go.Proofs.YtcedalofcekdkaaGreatDoor.Ex

def bodyOf (f : Func) : Code := match f.body with | some c => c | none => .skip

def TrAll {α : Type} (Q : Nat → α → Prop) : Tr α → Nat → Nat → Prop
  | .lf, _, _ => True
  | .nd v l r, b, k => (match v with | some a => Q b a | none => True) ∧ TrAll Q l (b + k) (2 * k) ∧ TrAll Q r (b + 2 * k) (2 * k)

theorem TrAll.at_ {α : Type} {Q : Nat → α → Prop} : ∀ {t : Tr α} {b k : Nat}, TrAll Q t b k → ∀ (p : Pos) (a : α), Tr.at_ p t = some a → Q (b + k * p.val) a
  | .lf, b, k, _, p, a, e => by rw [Tr.at_lf] at e; cases e
  | .nd v l r, b, k, h, .h, a, e => by
    rw [Tr.at_h] at e; cases e
    simpa [Pos.val] using h.1
  | .nd v l r, b, k, h, .o p, a, e => by
    have := h.2.1.at_ p a e
    rw [show b + k * (Pos.o p).val = b + k + 2 * k * p.val by simp only [Pos.val, Nat.mul_add, Nat.mul_one]; rw [Nat.mul_comm 2 k, Nat.mul_assoc]; omega]
    exact this
  | .nd v l r, b, k, h, .i p, a, e => by
    have := h.2.2.at_ p a e
    rw [show b + k * (Pos.i p).val = b + 2 * k + 2 * k * p.val by simp only [Pos.val, Nat.mul_add]; rw [Nat.mul_comm 2 k, Nat.mul_assoc]; omega]
    exact this

theorem TrAll.get {α : Type} {Q : Nat → α → Prop} {t : Tr α} (h : TrAll Q t 0 1) (n : Nat) (a : α) (e : t.get n = some a) : Q n a := by
  have := h.at_ (pathOf n) a e
  simpa [val_pathOf] using this

def fieldsOf' (P : Program) : List Field → Option (List (Nat × Nat × Nat))
  | [] => some []
  | f :: fs => match P.info? f.type with
    | some j => match fieldsOf' P fs with
      | some r => some ((f.offset, f.type, j.size) :: r)
      | none => none
    | none => none

def ukOf (P : Program) : TypeDesc → Option UK
  | .bool => some .bool
  | .int k => some (.int k)
  | .string => some .str
  | .pointer e => some (.ptr e)
  | .unsafePointer => some .unsafep
  | .slice e => some (.slice e)
  | .array n e => some (.array n e)
  | .map k e => some (.map k e)
  | .struct fs => match fieldsOf' P fs.toList with
    | some l => some (.struct l)
    | none => none
  | .interface _ => some .iface
  | .func _ _ _ => some .func
  | .chan _ _ => some .other
  | _ => none

def isAggV : Value → Bool
  | .agg _ => true
  | _ => false

def tiOf (P : Program) (t : Nat) : Option TI :=
  match P.info? t with
  | none => none
  | some i => match P.underlying t with
    | none => none
    | some d => match i.zero with
      | none => none
      | some z => match constL z.cells.toList with
        | none => none
        | some zl => match ukOf P d with
          | none => none
          | some u => match Nat.beq (lenL zl) i.size, isAggV z, aggD d with
            | true, true, true => some ⟨u, i.size, true, zl, i.bytes⟩
            | true, false, false => some ⟨u, i.size, false, zl, i.bytes⟩
            | _, _, _ => none

theorem fieldsOf'_ok {P : Program} : ∀ {fs : List Field} {l : List (Nat × Nat × Nat)}, fieldsOf' P fs = some l → l.length = fs.length ∧ ∀ (i : Nat) x, l[i]? = some x → ∃ g, fs[i]? = some g ∧ g.offset = x.1 ∧ g.type = x.2.1 ∧ ∃ j, P.info? x.2.1 = some j ∧ j.size = x.2.2
  | [], l, h => by simp [fieldsOf'] at h; subst h; exact ⟨rfl, fun i x e => by simp at e⟩
  | f :: fs, l, h => by
    simp only [fieldsOf'] at h
    split at h
    · rename_i j ej
      split at h
      · rename_i r er
        simp at h; subst h
        obtain ⟨h1, h2⟩ := fieldsOf'_ok er
        refine ⟨by simp [h1], fun i x e => ?_⟩
        cases i with
        | zero => simp at e; subst e; exact ⟨f, rfl, rfl, rfl, j, ej, rfl⟩
        | succ i => simpa using h2 i x (by simpa using e)
      · cases h
    · cases h

theorem ukOf_ok {P : Program} {d : TypeDesc} {u : UK} (h : ukOf P d = some u) : UKok P u d := by
  unfold ukOf at h
  split at h <;> first
    | (simp at h; subst h; constructor; done)
    | (simp at h; done)
    | skip
  · split at h
    · rename_i fs l e
      simp at h; subst h
      obtain ⟨h1, h2⟩ := fieldsOf'_ok e
      exact .struct _ _ (by simpa using h1) fun i x hx => by
        obtain ⟨g, hg, r⟩ := h2 i x hx
        exact ⟨g, by simpa using hg, r⟩
    · cases h
  · simp at h; subst h; exact .other _ (fun m e => by cases e)

theorem tiOf_ok {P : Program} {t : Nat} {i : TI} (h : tiOf P t = some i) : TIok P t i ∧ (i.isAgg = false → ∀ zv (w : World), (zeroValue t).run P w = .ok zv w → zv.cells = #[zv]) := by
  unfold tiOf at h
  split at h
  · cases h
  · rename_i f hf
    split at h
    · cases h
    · rename_i d hd
      split at h
      · cases h
      · rename_i z hz
        split at h
        · cases h
        · rename_i zl hzl
          split at h
          · cases h
          · rename_i u hu
            have hzv : ∀ ρ, VRL ρ zl z.cells.toList := fun ρ => constL_ok hzl
            split at h
            · rename_i e1 e2 e3
              simp at h; subst h
              have hl := Nat.eq_of_beq_eq_true e1
              rw [lenL_eq] at hl
              refine ⟨⟨⟨d, hd, ukOf_ok hu, e3.symm⟩, ⟨f, z, hf, rfl, rfl, hz, hzv, fun _ => ?_, hl⟩⟩, fun e => by simp at e⟩
              cases z <;> first | exact ⟨_, rfl⟩ | simp [isAggV] at e2
            · rename_i e1 e2 e3
              simp at h; subst h
              have hl := Nat.eq_of_beq_eq_true e1
              rw [lenL_eq] at hl
              refine ⟨⟨⟨d, hd, ukOf_ok hu, e3.symm⟩, ⟨f, z, hf, rfl, rfl, hz, hzv, fun e => by simp at e, hl⟩⟩, fun _ zv w hr => ?_⟩
              have : zv = z := by simpa [zeroValue, Go.typeInfo, hf, hz] using hr.symm
              subst this
              cases zv <;> first | rfl | simp [isAggV] at e2
            · cases h

def TiQ (P : Program) (t : Nat) (i : TI) : Prop := tiOf P t = some i

def FnQ (P : Program) (f : Nat) (F : AF) : Prop := ∃ g, P.funcs[f]? = some g ∧ g.body = some F.body ∧ g.ntmps = F.ntm ∧ g.results.toList = F.res ∧ ∀ (args : Array Value) (w : World), (callFunc f args).run P w = .ok (.enter f args) w

end Go.Proofs.YtcedalofcekdkaaGreatDoor.Ex
end
