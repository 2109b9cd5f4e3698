/- The executor is sound, part 2: what it answers is what the machine does. -/
import Derived.Test.YtcedalofcekdkaaGreatDoorExP0
import Derived.Laws.Strings
import Derived.Laws.StructEq
set_option linter.unusedSimpArgs false
set_option linter.unusedVariables false
section
namespace Go.Proofs.YtcedalofcekdkaaGreatDoor.Ex

theorem run_mapM {P : Program} {α β : Type} (f : α → Sem β) (g : α → β) (w : World) : ∀ (l : List α), (∀ x, x ∈ l → (f x).run P w = .ok (g x) w) → (l.mapM f).run P w = .ok (l.map g) w
  | [], _ => by simp
  | x :: l, h => by
    simp only [List.mapM_cons, Sem.run_bind, h x (by simp), Result.andThen_ok]
    rw [run_mapM f g w l fun y hy => h y (by simp [hy])]
    simp

theorem run_mapM_array {P : Program} {α β : Type} (f : α → Sem β) (g : α → β) (w : World) (l : Array α) (h : ∀ x, x ∈ l → (f x).run P w = .ok (g x) w) : (l.mapM f).run P w = .ok (l.map g) w := by
  rw [Array.mapM_eq_mapM_toList]
  simp only [Sem.run_map]
  rw [run_mapM f g w l.toList fun x hx => h x (by simpa using hx)]
  simp [← Array.toList_map]

theorem foldl_set (off : Nat) : ∀ (vs : List Value) (j : Nat) (c : Array Value), ((vs.zipIdx j).foldl (fun cs p => cs.setIfInBounds (off + p.2) p.1) c).size = c.size ∧
    ∀ i, ((vs.zipIdx j).foldl (fun cs p => cs.setIfInBounds (off + p.2) p.1) c)[i]? = if off + j ≤ i ∧ i < off + j + vs.length ∧ i < c.size then vs[i - (off + j)]? else c[i]?
  | [], j, c => by
    refine ⟨rfl, fun i => ?_⟩
    rw [if_neg (by simp; omega)]
    simp
  | v :: vs, j, c => by
    obtain ⟨h1, h2⟩ := foldl_set off vs (j + 1) (c.setIfInBounds (off + j) v)
    simp only [List.zipIdx_cons, List.foldl_cons]
    refine ⟨by rw [h1]; simp, fun i => ?_⟩
    rw [h2 i]
    simp only [Array.size_setIfInBounds, Array.getElem?_setIfInBounds, List.length_cons]
    by_cases c1 : off + (j + 1) ≤ i ∧ i < off + (j + 1) + vs.length ∧ i < c.size
    · rw [if_pos c1, if_pos (by omega)]
      rw [show i - (off + j) = (i - (off + (j + 1))) + 1 by omega]
      simp
    · rw [if_neg c1]
      by_cases c2 : off + j = i
      · subst c2
        by_cases c3 : off + j < c.size
        · simp [c3]
        · simp [c3]
      · rw [if_neg c2, if_neg (by omega)]

theorem fill_ok {ρ : Ren} (hone : ∀ i, (ρ.tok i).oneCell' = true) (place place' : Nat → Option (Nat × Nat)) (hp : ∀ i x, place i = some x → place' i = some x) :
    ∀ (parts : List (Nat × AV)) (qs : List (Nat × Value)) (l l' : List AV) (xs : Array Value), parts.length = qs.length → (∀ (i : Nat) p q, parts[i]? = some p → qs[i]? = some q → p.1 = q.1 ∧ VR ρ p.2 q.2) → VRL ρ l xs.toList →
      fillX place l parts = some l' → ∃ ys, Instr.fill place' xs qs = some ys ∧ VRL ρ l' ys.toList
  | [], [], l, l', xs, _, _, hv, h => by simp [fillX] at h; subst h; exact ⟨xs, rfl, hv⟩
  | [], _ :: _, _, _, _, h, _, _, _ => by simp at h
  | _ :: _, [], _, _, _, h, _, _, _ => by simp at h
  | (n, v) :: parts, (n', y) :: qs, l, l', xs, hlen, hq, hv, h => by
    obtain ⟨e1, hvy⟩ := hq 0 (n, v) (n', y) rfl rfl
    simp only at e1; subst e1
    simp only [fillX] at h
    cases ep : place n with
    | none => simp [ep] at h
    | some os =>
      obtain ⟨off, size⟩ := os
      simp only [ep] at h
      cases size with
      | zero => simp at h
      | succ size =>
        simp only at h
        cases eb : Nat.beq (lenL v.cells) (size + 1) with
        | false => simp [eb] at h
        | true =>
          have hsz : v.cells.length = size + 1 := by rw [← lenL_eq]; exact Nat.eq_of_beq_eq_true eb
          cases eo : overL v.cells off l with
          | none => simp [eb, eo] at h
          | some l2 =>
            simp [eb, eo] at h
            have hcy := cells_ok hone hvy
            have hcl := hcy.length
            have hyl : y.cells.size = size + 1 := by simpa [hsz] using hcl.symm
            obtain ⟨h2, h3⟩ := overL_eq _ _ _ _ eo
            have h3' : off + (size + 1) ≤ l.length := by
              rcases h3 with h3 | h3
              · rw [h3] at hsz; simp at hsz
              · omega
            have hll := hv.length
            have hxs : xs.size = l.length := by simpa using hll.symm
            simp only [Instr.fill, hp n _ ep, hyl]
            rw [if_neg (by simp; omega)]
            obtain ⟨f1, f2⟩ := foldl_set off y.cells.toList 0 xs
            refine fill_ok hone place place' hp parts qs l2 l' _ (by simpa using hlen) (fun i p q a b => hq (i + 1) p q (by simpa using a) (by simpa using b)) ?_ h
            rw [← Array.foldl_toList, Array.toList_zipIdx]
            refine .of_get ?_ fun i a z ha hz => ?_
            · rw [show (List.foldl (fun cs (x : Value × Nat) => cs.setIfInBounds (off + x.snd) x.fst) xs y.cells.toList.zipIdx).toList.length = xs.size from f1, hxs, h2]; simp; omega
            · rw [Array.getElem?_toList, f2 i] at hz
              rw [h2] at ha
              simp only [Nat.add_zero] at hz
              by_cases c1 : i < off
              · rw [List.append_assoc, List.getElem?_append_left (by simp; omega), List.getElem?_take, if_pos c1] at ha
                rw [if_neg (by omega)] at hz
                obtain ⟨z', hz', hvz⟩ := hv.get ha
                rw [Array.getElem?_toList] at hz'; rw [hz'] at hz; cases hz; exact hvz
              · by_cases c2 : i < off + (size + 1)
                · rw [List.getElem?_append_left (by simp; omega), List.getElem?_append_right (by simp; omega)] at ha
                  have ha' : v.cells[i - off]? = some a := by simpa [Nat.min_eq_left (show off ≤ l.length by omega)] using ha
                  rw [if_pos ⟨by omega, by simp [hyl]; omega, by omega⟩] at hz
                  obtain ⟨z', hz', hvz⟩ := hcy.get ha'
                  rw [hz'] at hz; cases hz; exact hvz
                · rw [List.getElem?_append_right (by simp; omega), List.getElem?_drop] at ha
                  have ha' : l[i]? = some a := by rw [← ha]; congr 1; simp [hsz]; omega
                  rw [if_neg (by simp [hyl]; omega)] at hz
                  obtain ⟨z', hz', hvz⟩ := hv.get ha'
                  rw [Array.getElem?_toList] at hz'; rw [hz'] at hz; cases hz; exact hvz

section
variable {P : Program} {E : Env} {B : Nat} {ops : Array Oper} {b : Frame} {k : List Item} {cs : List Frame} {i : Nat} {rest : List Nat} {o : Oper}
variable {ρ : Ren} {st st' : St} {a : Act} {w : World} {v : AV}

theorem evParts_ok : ∀ {l : List (Nat × Operand)} {ps : List (Nat × AV)}, Inv E B ρ st a w → evParts st l = some ps → ps.length = l.length ∧ ∀ (i : Nat) p q, ps[i]? = some p → (l.map fun x => (x.1, a.eval x.2))[i]? = some q → p.1 = q.1 ∧ VR ρ p.2 q.2
  | [], ps, _, h => by simp [evParts] at h; subst h; simp
  | (n, x) :: l, ps, hi, h => by
    simp only [evParts, St.ev] at h
    cases e : ev x st with
    | none => simp [e] at h
    | some v =>
      cases e2 : evParts st l with
      | none => simp [e, e2] at h
      | some q =>
        simp [e, e2] at h; subst h
        obtain ⟨h1, h2⟩ := evParts_ok hi e2
        refine ⟨by simp [h1], fun j p q hp hq => ?_⟩
        cases j with
        | zero => simp at hp hq; subst hp; subst hq; exact ⟨rfl, ev_ok hi e⟩
        | succ j => exact h2 j p q (by simpa using hp) (by simpa using hq)

theorem nth_map_place {fs : List (Nat × Nat × Nat)} {gs : Array Field} {P : Program} (hl : fs.length = gs.size)
    (h : ∀ (i : Nat) x, fs[i]? = some x → ∃ g, gs[i]? = some g ∧ g.offset = x.1 ∧ g.type = x.2.1 ∧ ∃ j, P.info? x.2.1 = some j ∧ j.size = x.2.2) (w : World) :
    ∃ places : Array (Nat × Nat), (gs.mapM (m := Sem) fun f => do pure (f.offset, ← sizeOf f.type)).run P w = .ok places w ∧ ∀ (i : Nat) x, (nth fs i).map (fun f => (f.1, f.2.2)) = some x → places[i]? = some x := by
  have hall : ∀ g, g ∈ gs → ∃ j, P.info? g.type = some j := by
    intro g hg
    obtain ⟨n, hn, e⟩ := Array.mem_iff_getElem.1 hg
    obtain ⟨g', hg', _, ht, j, hj, _⟩ := h n (fs[n]'(by omega)) (by simp)
    rw [Array.getElem?_eq_getElem hn, Option.some.injEq, e] at hg'
    subst hg'
    exact ⟨j, by rw [ht]; exact hj⟩
  refine ⟨gs.map fun f => (f.offset, ((P.info? f.type).map (·.size)).getD 0), run_mapM_array _ _ w gs fun g hg => ?_, fun n x hx => ?_⟩
  · obtain ⟨j, hj⟩ := hall g hg
    simp [sizeOf, typeInfo, hj]
  · rw [nth_eq] at hx
    cases e : fs[n]? with
    | none => simp [e] at hx
    | some f =>
      simp [e] at hx
      obtain ⟨g, hg, h1, h2, j, hj, hs⟩ := h n f e
      subst hx
      simp [hg, h1, h2, hj, hs]

theorem build_ok (hE : EnvOK P E B) {t : Nat} {ps : Array (Nat × Operand)} (H : Here ops i o a) (hi : Inv E B ρ st a w) (ho : o.op = .build t ps) (self : Self) :
    (hBuild t ps E self o.dst st).Holds (OpPost P E B ops b k cs i rest ρ st a w) := by
  simp only [hBuild]
  cases e : evParts st ps.toList with
  | none => trivial
  | some qs =>
    obtain ⟨hl, hq⟩ := evParts_ok hi e
    simp only [finO]
    cases eb : buildX E t qs with
    | none => trivial
    | some v =>
      have hq' : ∀ (i : Nat) p q, qs[i]? = some p → ((ps.map fun x => (x.1, a.eval x.2)).toList)[i]? = some q → p.1 = q.1 ∧ VR ρ p.2 q.2 := by simpa using hq
      unfold buildX at eb
      cases et : E.ti t with
      | none => simp [et] at eb
      | some ti =>
        have hT := hE.ti t ti et
        obtain ⟨z, hz, hzv, hz4, hz5⟩ := hT.zero
        obtain ⟨d, hd, hu, hag⟩ := hT.underlying
        obtain ⟨u, size, isAgg, zero, bytes⟩ := ti
        cases u <;> simp [et] at eb
        · rename_i n el
          cases ee : E.ti el with
          | none => simp [ee] at eb
          | some ei =>
            simp [ee] at eb
            obtain ⟨l', hl', rfl⟩ := eb
            cases hu
            obtain ⟨ys, hy1, hy2⟩ := fill_ok hi.hr.one _ (fun i => some (i * ei.size, ei.size)) (fun i x h => h) qs _ _ l' z.cells (by simpa using hl) hq' (hzv ρ) hl'
            refine fin_ran H hi (ran_pure hi (x := .agg ys) ?_ (by simpa using VR.agg _ _ hy2))
            simp only [Array.toList_map] at hy1
            simp [execOp, ho, Instr.build, hz, hd, (hE.ti el ei ee).sizeOf, hy1]
        · rename_i fs
          obtain ⟨l', hl', rfl⟩ := eb
          cases hu with
          | struct _ gs hgl hg =>
            obtain ⟨places, hpl, hpl2⟩ := nth_map_place hgl hg w
            obtain ⟨ys, hy1, hy2⟩ := fill_ok hi.hr.one _ (places[·]?) (fun i x h => hpl2 i x (by simpa using h)) qs _ _ l' z.cells (by simpa using hl) hq' (hzv ρ) hl'
            refine fin_ran H hi (ran_pure hi (x := .agg ys) ?_ (by simpa using VR.agg _ _ hy2))
            simp only [execOp, ho, Instr.build, Sem.run_bind, hz, Result.andThen_ok, hd]
            simp only [hpl, Result.andThen_ok]
            simp only [hy1]
            simp

theorem repL_ok {z : List AV} {zs : Array Value} (hz : VRL ρ z zs.toList) (hpos : 0 < zs.size) : ∀ n, VRL ρ (repL z n) (((Array.range (n * zs.size)).map (zs[· % zs.size]!)).toList)
  | 0 => by simpa [repL] using .nil
  | n + 1 => by
    have h1 : repL z (n + 1) = z ++ repL z n := by
      simp only [repL]
      generalize repL z n = r
      induction z with
      | nil => rfl
      | cons x z ih => simp
    rw [h1]
    have h2 : ((Array.range ((n + 1) * zs.size)).map (zs[· % zs.size]!)).toList = zs.toList ++ ((Array.range (n * zs.size)).map (zs[· % zs.size]!)).toList := by
      apply List.ext_getElem?
      intro j
      simp only [Array.toList_map, Array.toList_range, List.getElem?_map]
      by_cases c : j < zs.size
      · rw [List.getElem?_append_left (by simpa using c)]
        have : j < (n + 1) * zs.size := by rw [Nat.add_mul]; omega
        simp [this, Nat.mod_eq_of_lt c, c]
      · rw [List.getElem?_append_right (by simp; omega)]
        by_cases c2 : j < (n + 1) * zs.size
        · have c3 : j - zs.size < n * zs.size := by rw [Nat.add_mul] at c2; omega
          have hm : (j - zs.size) % zs.size = j % zs.size := by
            conv => rhs; rw [show j = (j - zs.size) + zs.size by omega, Nat.add_mod_right]
          simp [c2, c3, hm]
        · have c3 : ¬ j - zs.size < n * zs.size := by rw [Nat.add_mul] at c2; omega
          simp [c2, c3]
    rw [h2]
    exact hz.append (repL_ok hz hpos n)

theorem repL_length (z : List AV) : ∀ n, (repL z n).length = n * z.length
  | 0 => by simp [repL]
  | n + 1 => by
    simp only [repL]
    have : ∀ (l r : List AV), (l.foldr (fun x r => x :: r) r).length = l.length + r.length := by
      intro l r; induction l with
      | nil => simp
      | cons x l ih => simp [ih]; omega
    rw [this, repL_length z n, Nat.add_mul]; omega

theorem buildSlice_ok (hE : EnvOK P E B) {t len : Nat} {ps : Array (Nat × Operand)} (H : Here ops i o a) (hi : Inv E B ρ st a w) (ho : o.op = .buildSlice t len ps) (self : Self) :
    (hBuildSlice t len ps E self o.dst st).Holds (OpPost P E B ops b k cs i rest ρ st a w) := by
  simp only [hBuildSlice]
  cases e : evParts st ps.toList with
  | none => trivial
  | some qs =>
    obtain ⟨hl, hq⟩ := evParts_ok hi e
    have hq' : ∀ (i : Nat) p q, qs[i]? = some p → ((ps.map fun x => (x.1, a.eval x.2)).toList)[i]? = some q → p.1 = q.1 ∧ VR ρ p.2 q.2 := by simpa using hq
    simp only [finS]
    cases eb : buildSliceX E st t len qs with
    | none => trivial
    | some r =>
      obtain ⟨v, s⟩ := r
      unfold buildSliceX at eb
      cases et : E.ti t with
      | none => simp [et] at eb
      | some ti =>
        have hT := hE.ti t ti et
        obtain ⟨d, hd, hu, hag⟩ := hT.underlying
        obtain ⟨u, size, isAgg, zero, bts⟩ := ti
        cases u <;> simp [et] at eb
        rename_i el
        cases ee : E.ti el with
        | none => simp [ee] at eb
        | some ei =>
          simp only [ee] at eb
          cases c1 : Nat.blt 0 ei.size <;> cases c2 : Nat.blt (len * ei.size) 1000000 <;> simp [c1, c2] at eb
          cases ef : fillX (fun i => some (i * ei.size, ei.size)) (repL ei.zero len) qs with
          | none => simp [ef] at eb
          | some l' =>
            cases en : st.newCells el l' with
            | none => simp [ef, en] at eb
            | some p =>
              obtain ⟨g, s2⟩ := p
              simp [ef, en] at eb
              obtain ⟨rfl, rfl⟩ := eb
              have hEl := hE.ti el ei ee
              obtain ⟨z, hz, hzv, _, hzl⟩ := hEl.zero
              have hzs : z.cells.size = ei.size := by have := (hzv ρ).length; simp at this; omega
              have hpos : 0 < ei.size := by simp [Nat.blt] at c1; omega
              have hsm : len * ei.size < 1000000 := by simp [Nat.blt] at c2; omega
              have hrep := repL_ok (hzv ρ) (by omega) len
              cases hu
              obtain ⟨ys, hy1, hy2⟩ := fill_ok hi.hr.one _ (fun i => some (i * ei.size, ei.size)) (fun i x h => h) qs _ _ l' _ (by simpa using hl) hq' hrep ef
              obtain ⟨ρ', h1, h2, h3, h4, _⟩ := newCells_ok hi.hr en hy2
              refine fin_ran H hi ⟨.slice (some ⟨w.heap.size, 0, none⟩) len len, _, ρ', _, ?_, .inl rfl, by simpa using VR.sl (ρ := ρ') g 0 0 len len _ h4, h1, h2, h3⟩
              have hn0 : ¬ (len * ei.size > 2 ^ 24) := by omega
              rw [hzs] at hy1
              simp only [execOp, ho, Instr.buildSlice, Sem.run_bind, hd, Result.andThen_ok, hEl.sizeOf]
              by_cases h0 : len * ei.size = 0
              · have hl0 : len = 0 := by
                  rcases Nat.mul_eq_zero.1 h0 with h | h
                  · exact h
                  · omega
                subst hl0
                have e0 : Array.range 0 = #[] := rfl
                simp only [Nat.zero_mul, e0, Array.map_empty, Array.toList_map] at hy1
                simp [e0, hy1, newRow]
              · simp only [Array.toList_map] at hy1
                simp [hn0, h0, hz, hzs, newRow, hy1]

end
end Go.Proofs.YtcedalofcekdkaaGreatDoor.Ex
end

section
namespace Go.Proofs.YtcedalofcekdkaaGreatDoor.Ex

structure EqOK (P : Program) (E : Env) : Prop where
  und : ∀ (t : Nat) ks, E.eqT t = some ks → ∃ d, P.underlying t = some d
  agg : ∀ (t : Nat) ks (l m : List AV) r (w : World) ρ xs ys, E.eqT t = some ks → (∃ d, P.underlying t = some d ∧ aggD d = true) → cellsEq ks l m = some r → VRL ρ l xs → VRL ρ m ys →
    P.eqGuardType P.depth t = false ∧ (Op.equalIn 10000 t (.agg xs.toArray) (.agg ys.toArray)).run P w = .ok r w
  one : ∀ (t : Nat) c x y r (w : World) ρ cx cy, E.eqT t = some [c] → c.has x = true → c.has y = true → scalEq x y = some r → VR ρ x cx → VR ρ y cy →
    ∃ info, P.info? t = some info ∧ info.comparable = true ∧ (Op.equalIn 9999 t cx cy).run P w = .ok r w
  key : ∀ (t : Nat) ks (l : List AV) e (w : World) ρ xs, E.eqT t = some ks → cellsEq.haveAll ks l = true → VRL ρ l xs → (Instr.checkKey e 10000 t (.agg xs.toArray)).run P w = .ok () w

theorem intEq_ok (a b : Int) : intEq a b = (a == b) := by
  cases a <;> cases b <;> simp [intEq] <;> (rw [Bool.eq_iff_iff]; simp [Nat.beq_eq])
  omega

theorem kindEq_ok {a b : IntKind} (h : kindEq a b = true) : a = b := by simpa [kindEq] using h

theorem ofNat_eq (a b : Nat) : (UInt8.ofNat a == UInt8.ofNat b) = Nat.beq (a % 256) (b % 256) := by
  rw [Bool.eq_iff_iff, Nat.beq_eq, beq_iff_eq, ← UInt8.toNat_inj]
  simp

theorem natsEq_ok : ∀ (l m : List Nat), natsEq l m = (l.map UInt8.ofNat == m.map UInt8.ofNat)
  | [], [] => rfl
  | [], _ :: _ => rfl
  | _ :: _, [] => rfl
  | a :: l, b :: m => by
    simp only [natsEq, List.map_cons, List.cons_beq_cons, ofNat_eq, natsEq_ok l m]
    cases Nat.beq (a % 256) (b % 256) <;> simp

theorem ofNat_lt (a b : Nat) : decide (UInt8.ofNat a < UInt8.ofNat b) = Nat.blt (a % 256) (b % 256) := by
  rw [Bool.eq_iff_iff]
  simp [UInt8.lt_iff_toNat_lt, Nat.blt]
  omega

theorem natsLt_ok : ∀ (l m : List Nat), natsLt l m = Op.bytesLess (l.map UInt8.ofNat) (m.map UInt8.ofNat)
  | [], [] => rfl
  | [], _ :: _ => rfl
  | _ :: _, [] => rfl
  | a :: l, b :: m => by
    simp only [natsLt, List.map_cons, Op.bytesLess, ofNat_eq, ofNat_lt, natsLt_ok l m]
    cases Nat.blt (a % 256) (b % 256) <;> cases Nat.beq (a % 256) (b % 256) <;> simp

@[simp] theorem bytes_toList (l : List Nat) : (bytes l).toList = l.map UInt8.ofNat := by
  rw [ByteArray.toList_eq]; simp [bytes]

@[simp] theorem bytes_size (l : List Nat) : (bytes l).size = l.length := by simp [bytes, ByteArray.size]

@[simp] theorem bytes_data_size (l : List Nat) : (bytes l).data.size = l.length := by simp [bytes]

theorem bytes_append (l m : List Nat) : bytes (l ++ m) = bytes l ++ bytes m := by
  apply ByteArray.ext
  simp [bytes]

theorem bytes_beq (l m : List Nat) : (bytes l == bytes m) = natsEq l m := by
  rw [beq_toListBytes, bytes_toList, bytes_toList, natsEq_ok]

section
variable {P : Program} {E : Env} {B : Nat} {ρ : Ren} {w : World} {x y : AV} {cx cy : Value}

set_option maxHeartbeats 2000000 in
theorem valEq_ok (hE : EnvOK P E B) (hQ : EqOK P E) {t : Nat} {r : Bool} (h : valEq E t x y = some r) (hx : VR ρ x cx) (hy : VR ρ y cy) : (Op.equal t cx cy).run P w = .ok r w := by
  obtain ⟨n, hn⟩ : ∃ n, n = 9999 := ⟨_, rfl⟩
  have h1 := @hQ.one
  have h2 := @hQ.agg
  show (Op.equalIn (9999 + 1) t cx cy).run P w = _
  rw [show (10000 : Nat) = 9999 + 1 from rfl] at h2
  rw [← hn] at h1 h2 ⊢
  clear hn hQ
  unfold valEq at h
  cases et : E.ti t with
  | none => simp [et] at h
  | some ti =>
    have hT := hE.ti t ti et
    obtain ⟨d, hd, hu, hag⟩ := hT.underlying
    have hagg := hT.und
    obtain ⟨u, size, isAgg, zero, bts⟩ := ti
    simp only [et] at h
    cases u <;> simp only at h
    case unsafep => simp at h
    case other => simp at h
    case bool =>
      cases hu
      cases x <;> simp [boolEq] at h
      cases y <;> simp at h
      cases hx; cases hy
      unfold Op.equalIn
      simp [hd, h]
    case int k =>
      cases hu
      cases x <;> simp [intsEq] at h
      cases y <;> simp at h
      rename_i j a j' b
      cases hk : kindEq j j' with
      | false => simp [hk] at h
      | true =>
        simp [hk] at h
        have := kindEq_ok hk; subst this
        cases hx; cases hy
        unfold Op.equalIn
        simp [hd, ← h, intEq_ok]
    case str =>
      cases hu
      cases x <;> simp [strsEq] at h
      cases y <;> simp at h
      cases hx; cases hy
      unfold Op.equalIn
      simp [hd, bytes_beq, h]
    case ptr e =>
      cases hu
      cases ee : E.ti e with
      | none => simp [ee] at h
      | some ei =>
        simp only [ee] at h
        have hs := (hE.ti e ei ee).sizeOf
        cases x <;> simp [ptrEq] at h <;> cases y <;> simp at h
        · cases hx; cases hy; unfold Op.equalIn; simp [hd, h]
        · cases hx; cases hy; unfold Op.equalIn; simp [hd, h]
        · cases hx; cases hy; unfold Op.equalIn; simp [hd, h]
        · rename_i g m o g' m' o'
          cases c1 : Nat.beq g g' <;> cases c2 : Nat.beq m m' <;> cases c3 : Nat.beq ei.size 0 <;> simp [c1, c2, c3] at h
          have e1 := Nat.eq_of_beq_eq_true c1
          have e2 := Nat.eq_of_beq_eq_true c2
          subst e1; subst e2
          have e3 : ei.size ≠ 0 := fun e => by rw [e] at c3; simp at c3
          cases hx with
          | ptr _ _ _ L hL =>
            cases hy with
            | ptr _ _ _ M hM =>
              rw [hL] at hM; cases hM
              unfold Op.equalIn
              simp [hd, hs, e3, sameAddr]
              rw [← h, Bool.eq_iff_iff, Nat.beq_eq]; simp
    case slice e =>
      cases hu
      cases x <;> simp [nilEq] at h <;> cases y <;> simp at h <;> (cases hx; cases hy; unfold Op.equalIn; simp [hd, h])
    case map k e =>
      cases hu
      cases x <;> simp [nilMapEq] at h <;> cases y <;> simp at h <;> (cases hx; cases hy; unfold Op.equalIn; simp [hd, h])
    case func =>
      cases hu
      cases x <;> simp [nilFuncEq] at h <;> cases y <;> simp at h <;> (cases hx <;> cases hy <;> (unfold Op.equalIn; simp [hd, h]))
    case iface =>
      cases hu
      cases x <;> simp only [ifaceEq, reduceCtorEq] at h <;> cases y <;> simp only [reduceCtorEq, Option.some.injEq] at h
      · cases hx; cases hy; unfold Op.equalIn; simp [hd, h]
      · cases hx; cases hy; unfold Op.equalIn; simp [hd, h]
      · rename_i a x b y
        cases hx with
        | iface _ _ cx hx =>
          cases hy with
          | iface _ _ cy hy =>
            cases c1 : Nat.beq a b with
            | false =>
              simp [c1] at h
              have : a ≠ b := fun e => by rw [e] at c1; simp at c1
              unfold Op.equalIn
              simp [hd, this, h]
            | true =>
              have e1 := Nat.eq_of_beq_eq_true c1
              subst e1
              simp only [c1] at h
              cases eq : E.eqT a with
              | none => simp [eq] at h
              | some ks =>
                match ks, eq, h with
                | [c], eq, h =>
                  simp only [eq] at h
                  cases c2 : (c.has x && c.has y) with
                  | false => simp [c2] at h
                  | true =>
                    simp only [c2] at h
                    simp at c2
                    obtain ⟨info, hi, hc, hr⟩ := h1 a c x y r w ρ cx cy eq c2.1 c2.2 h hx hy
                    unfold Op.equalIn
                    simp [hd, typeInfo, hi, hc, hr]
                | [], eq, h => simp [eq] at h
                | _ :: _ :: _, eq, h => simp [eq] at h
    case struct fs =>
      cases x <;> simp [aggEq] at h
      cases y <;> simp at h
      cases eq : E.eqT t with
      | none => simp [eq] at h
      | some ks =>
        simp [eq] at h
        cases hx with
        | agg _ _ hx =>
          cases hy with
          | agg _ _ hy => exact (h2 t ks _ _ r w ρ _ _ eq (by obtain ⟨d', hd', hu', _⟩ := hagg; cases hu'; exact ⟨_, hd', rfl⟩) h hx hy).2
    case array n e =>
      cases x <;> simp [aggEq] at h
      cases y <;> simp at h
      cases eq : E.eqT t with
      | none => simp [eq] at h
      | some ks =>
        simp [eq] at h
        cases hx with
        | agg _ _ hx =>
          cases hy with
          | agg _ _ hy => exact (h2 t ks _ _ r w ρ _ _ eq (by obtain ⟨d', hd', hu', _⟩ := hagg; cases hu'; exact ⟨_, hd', rfl⟩) h hx hy).2

end
end Go.Proofs.YtcedalofcekdkaaGreatDoor.Ex
end

section
namespace Go.Proofs.YtcedalofcekdkaaGreatDoor.Ex
section
variable {P : Program} {E : Env} {B : Nat} {ops : Array Oper} {b : Frame} {k : List Item} {cs : List Frame} {i : Nat} {rest : List Nat} {o : Oper}
variable {ρ : Ren} {st st' : St} {a : Act} {w : World} {v : AV}

theorem pureVal_ok {s : Sem Value} (h : pureVal s = some v) (ρ : Ren) (P : Program) (w : World) : ∃ x, s.run P w = .ok x w ∧ VR ρ v x := by
  unfold pureVal at h
  split at h <;> simp at h <;> subst h
  · exact ⟨_, rfl, .int _ _⟩
  · exact ⟨_, rfl, .bool _⟩

theorem eqGuard_plain {op : BinOp} {t : Nat} {x y : Operand} {p q : Value} (h : (∀ u, p ≠ .agg u) ∨ (∀ u, q ≠ .agg u)) (h' : p ≠ .nilIface ∨ q ≠ .nilIface) : (eqGuard op t x y p q).run P w = .ok () w := by
  unfold eqGuard
  cases op <;> simp <;> (split <;> first | rfl | simp_all)

theorem eqGuard_agg {op : BinOp} {t : Nat} {x y : Operand} {p q : Array Value} (h : P.eqGuardType P.depth t = false) : (eqGuard op t x y (.agg p) (.agg q)).run P w = .ok () w := by
  unfold eqGuard
  cases op <;> simp [h]

theorem eqGuard_nil {op : BinOp} {t : Nat} {x y : Operand} (h : (isLit x || isLit y) = true) : (eqGuard op t x y .nilIface .nilIface).run P w = .ok () w := by
  cases x <;> cases y <;> cases op <;> simp_all [eqGuard, isLit]

theorem strBin_ok {op : BinOp} {l m : List Nat} {t : Nat} (h : binX E op t (.str l) (.str m) = some v) :
    ∃ x, (binOp op t (.string (bytes l)) (.string (bytes m))).run P w = .ok x w ∧ VR ρ v x := by
  simp only [binX] at h
  cases op <;> simp at h
  · cases hb : Nat.blt (lenL l + lenL m) 4611686018427387904 with
    | false => simp [hb] at h
    | true =>
      simp [hb] at h; subst h
      have hlen : l.length + m.length < 4611686018427387904 := by simp [Nat.blt, lenL_eq] at hb; omega
      refine ⟨.string (bytes (natsApp l m)), ?_, .str _⟩
      have : ¬ (((bytes l).size + (bytes m).size : Nat) : Int) > IntKind.i64.max := by
        simp [IntKind.max, IntKind.bits, IntKind.signed]
        omega
      simp only [binOp, Op.stringOp, if_neg this, natsApp_eq, bytes_append]
      rfl
  all_goals
    subst h
    refine ⟨_, ?_, .bool _⟩
    simp [binOp, Op.stringOp, natsEq_ok, natsLt_ok]

theorem notInt_of {x : AV} {cx : Value} (hone : ∀ i, (ρ.tok i).oneCell' = true) (h : VR ρ x cx) (hn : ∀ k n, x ≠ .int k n) (ht : ∀ i, x ≠ .tok i) : ∀ k n, cx ≠ .int k n := by
  intro k n e
  cases h <;> simp_all

theorem eqBin_ok (hE : EnvOK P E B) (hQ : EqOK P E) {op : BinOp} {t : Nat} {x y : AV} {cx cy : Value} {r : Bool} (h : valEq E t x y = some r) (hx : VR ρ x cx) (hy : VR ρ y cy)
    (hi : ∀ k n, x ≠ .int k n) (hs : ∀ l, x ≠ .str l) :
    (op = .eql → (binOp op t cx cy).run P w = .ok (.bool r) w) ∧ (op = .neq → (binOp op t cx cy).run P w = .ok (.bool !r) w) := by
  have he := valEq_ok (w := w) hE hQ h hx hy
  have hnt : ∀ i, x ≠ .tok i := by
    intro j e; subst e
    unfold valEq at h
    cases et : E.ti t with
    | none => simp [et] at h
    | some ti =>
      obtain ⟨u, size, isAgg, zero, bts⟩ := ti
      cases u <;> simp [et, boolEq, intsEq, strsEq, nilEq, nilMapEq, nilFuncEq, ifaceEq, aggEq] at h
      rename_i e
      cases ee : E.ti e <;> simp [ee, ptrEq] at h
  constructor
  · rintro rfl
    cases hx <;> first | exact absurd rfl (hi _ _) | exact absurd rfl (hs _) | exact absurd rfl (hnt _) | (simp [binOp, he])
  · rintro rfl
    cases hx <;> first | exact absurd rfl (hi _ _) | exact absurd rfl (hs _) | exact absurd rfl (hnt _) | (simp [binOp, he])

theorem VR.agg_inv {x : AV} {cx : Value} (hone : ∀ i, (ρ.tok i).oneCell' = true) (h : VR ρ x cx) : ∀ u, cx = .agg u → ∃ l, x = .agg l := by
  cases h <;> intro u e <;> first
    | exact ⟨_, rfl⟩
    | (cases e; done)
    | skip
  rename_i j
  have := hone j
  rw [e] at this
  simp [Value.oneCell'] at this

theorem VR.nil_inv {x : AV} {cx : Value} (h : VR ρ x cx) : cx = .nilIface → x = .nili ∨ ∃ i, x = .tok i := by
  cases h <;> intro e <;> first
    | exact .inl rfl
    | exact .inr ⟨_, rfl⟩
    | (cases e; done)

theorem valEq_tokL (t i : Nat) (y : AV) : valEq E t (.tok i) y = none := by
  unfold valEq
  split <;> first | rfl | (split <;> rfl) | skip
  all_goals (cases y <;> rfl)

theorem valEq_tokR (t i : Nat) (x : AV) : valEq E t x (.tok i) = none := by
  unfold valEq
  split <;> first | rfl | (cases x <;> rfl) | (split <;> first | rfl | (cases x <;> rfl))

theorem binX_ok (hE : EnvOK P E B) (hQ : EqOK P E) {op : BinOp} {t : Nat} {x y : AV} {cx cy : Value} {X Y : Operand} (h : binX E op t x y = some v) (hx : VR ρ x cx) (hy : VR ρ y cy)
    (hone : ∀ i, (ρ.tok i).oneCell' = true) (hnn : x ≠ .nili ∨ y ≠ .nili) :
    ∃ z, (do eqGuard op t X Y cx cy; binOp op t cx cy : Sem Value).run P w = .ok z w ∧ VR ρ v z := by
  by_cases hii : ∃ k n j m, x = .int k n ∧ y = .int j m
  · obtain ⟨k, n, j, m, rfl, rfl⟩ := hii
    cases hx; cases hy
    obtain ⟨z, hz, hv⟩ := pureVal_ok h ρ P w
    refine ⟨z, ?_, hv⟩
    rw [Sem.run_bind, eqGuard_plain (.inl (by simp)) (.inl (by simp))]
    exact hz
  by_cases hss : ∃ l m, x = .str l ∧ y = .str m
  · obtain ⟨l, m, rfl, rfl⟩ := hss
    cases hx; cases hy
    obtain ⟨z, hz, hv⟩ := strBin_ok (P := P) (w := w) (ρ := ρ) h
    refine ⟨z, ?_, hv⟩
    rw [Sem.run_bind, eqGuard_plain (.inl (by simp)) (.inl (by simp))]
    exact hz

  have hr : ∃ r, valEq E t x y = some r ∧ ((op = .eql ∧ v = .bool r) ∨ (op = .neq ∧ v = .bool !r)) := by
    unfold binX at h
    split at h
    · exact absurd ⟨_, _, _, _, rfl, rfl⟩ hii
    · exact absurd ⟨_, _, rfl, rfl⟩ hss
    · split at h
      · cases e : valEq E t x y with
        | none => simp [e] at h
        | some r => simp [e] at h; exact ⟨r, rfl, .inl ⟨rfl, h.symm⟩⟩
      · cases e : valEq E t x y with
        | none => simp [e] at h
        | some r => simp [e] at h; exact ⟨r, rfl, .inr ⟨rfl, h.symm⟩⟩
      · cases h
  obtain ⟨r, hr, hop⟩ := hr

  have hg : (eqGuard op t X Y cx cy).run P w = .ok () w := by
    by_cases ha : (∃ u, cx = .agg u) ∧ ∃ u, cy = .agg u
    · obtain ⟨⟨u, rfl⟩, u', rfl⟩ := ha
      have hxa : ∃ l, x = .agg l := VR.agg_inv hone hx _ rfl
      have hya : ∃ l, y = .agg l := VR.agg_inv hone hy _ rfl
      obtain ⟨l, rfl⟩ := hxa
      obtain ⟨m, rfl⟩ := hya
      have hag : ∃ ks, E.eqT t = some ks ∧ (∃ d, P.underlying t = some d ∧ aggD d = true) ∧ cellsEq ks l m = some r := by
        unfold valEq at hr
        cases et : E.ti t with
        | none => simp [et] at hr
        | some ti =>
          have hagg := (hE.ti t ti et).und
          obtain ⟨u, size, isAgg, zero, bts⟩ := ti
          cases u <;> simp [et, boolEq, intsEq, strsEq, nilEq, nilMapEq, nilFuncEq, ifaceEq, aggEq] at hr
          · rename_i e; cases ee : E.ti e <;> simp [ee, ptrEq] at hr
          all_goals
            cases eq : E.eqT t with
            | none => simp [eq] at hr
            | some ks => simp [eq] at hr; exact ⟨ks, rfl, by obtain ⟨d', hd', hu', _⟩ := hagg; cases hu'; exact ⟨_, hd', rfl⟩, hr⟩
      obtain ⟨ks, hks, hd3, hc⟩ := hag
      cases hx with
      | agg _ _ hx => cases hy with
        | agg _ _ hy => exact eqGuard_agg (hQ.agg t ks l m r w ρ _ _ hks hd3 hc hx hy).1
    · refine eqGuard_plain ?_ ?_
      · rcases Classical.not_and_iff_not_or_not.1 ha with h | h
        · exact .inl fun u e => h ⟨u, e⟩
        · exact .inr fun u e => h ⟨u, e⟩
      ·
        rcases hnn with h | h
        · exact .inl fun e => by
            rcases VR.nil_inv hx e with rfl | ⟨j, rfl⟩
            · exact h rfl
            · rw [valEq_tokL] at hr; cases hr
        · exact .inr fun e => by
            rcases VR.nil_inv hy e with rfl | ⟨j, rfl⟩
            · exact h rfl
            · rw [valEq_tokR] at hr; cases hr
  have hni : ∀ k n, x ≠ .int k n := by
    intro j n e; subst e
    apply hii
    unfold valEq at hr
    cases et : E.ti t with
    | none => simp [et] at hr
    | some ti =>
      obtain ⟨u, size, isAgg, zero, bts⟩ := ti
      cases u <;> simp [et, boolEq, intsEq, strsEq, nilEq, nilMapEq, nilFuncEq, ifaceEq, aggEq] at hr
      · cases y <;> simp at hr; exact ⟨_, _, _, _, rfl, rfl⟩
      · rename_i e; cases ee : E.ti e <;> simp [ee, ptrEq] at hr
  have hns : ∀ l, x ≠ .str l := by
    intro l e; subst e
    apply hss
    unfold valEq at hr
    cases et : E.ti t with
    | none => simp [et] at hr
    | some ti =>
      obtain ⟨u, size, isAgg, zero, bts⟩ := ti
      cases u <;> simp [et, boolEq, intsEq, strsEq, nilEq, nilMapEq, nilFuncEq, ifaceEq, aggEq] at hr
      · cases y <;> simp at hr; exact ⟨_, _, rfl, rfl⟩
      · rename_i e; cases ee : E.ti e <;> simp [ee, ptrEq] at hr
  obtain ⟨h1, h2⟩ := eqBin_ok (w := w) (op := op) hE hQ hr hx hy hni hns
  rcases hop with ⟨ho, rfl⟩ | ⟨ho, rfl⟩
  · exact ⟨_, by rw [Sem.run_bind, hg]; exact h1 ho, .bool _⟩
  · exact ⟨_, by rw [Sem.run_bind, hg]; exact h2 ho, .bool _⟩

theorem bin_ok (hE : EnvOK P E B) (hQ : EqOK P E) {op : BinOp} {t t' : Nat} {x y : Operand} (H : Here ops i o a) (hi : Inv E B ρ st a w) (ho : o.op = .binOp op t x y t') (self : Self) :
    (hBin op t x y E self o.dst st).Holds (OpPost P E B ops b k cs i rest ρ st a w) := by
  unfold hBin
  split
  · rename_i e1 e2
    have hx := ev_ok hi e1
    have hy := ev_ok hi e2
    cases hl : (isLit x || isLit y) with
    | false => trivial
    | true =>
      simp only [finO]
      cases en : nilNil op t E with
      | none => trivial
      | some v =>
        have hg := eqGuard_nil (P := P) (w := w) (op := op) (t := t) hl
        generalize hax : a.eval x = ax at hx
        generalize hay : a.eval y = ay at hy
        cases hx; cases hy
        unfold nilNil at en
        cases et : E.ti t with
        | none => simp [et] at en
        | some ti =>
          obtain ⟨d, hd, hu, hag⟩ := (hE.ti t ti et).underlying
          obtain ⟨u, size, isAgg, zero, bts⟩ := ti
          cases u <;> simp [et] at en
          cases hu
          have he : (Op.equal t .nilIface .nilIface).run P w = .ok true w := by
            obtain ⟨n, hn⟩ : ∃ n, n = 9999 := ⟨_, rfl⟩
            show (Op.equalIn (9999 + 1) t .nilIface .nilIface).run P w = _
            rw [← hn]
            unfold Op.equalIn
            simp [hd]
          cases op <;> simp at en
          · subst en
            refine fin_ran H hi (ran_pure hi (x := .bool true) ?_ (.bool _))
            simp [execOp, ho, hax, hay, hg, binOp, he]
          · subst en
            refine fin_ran H hi (ran_pure hi (x := .bool false) ?_ (.bool _))
            simp [execOp, ho, hax, hay, hg, binOp, he]
  · rename_i u1 u2 hnn e1 e2
    simp only [finO]
    cases eb : binX E op t u1 u2 with
    | none => trivial
    | some v =>
      obtain ⟨z, hz, hv⟩ := binX_ok (P := P) (w := w) (X := x) (Y := y) hE hQ eb (ev_ok hi e1) (ev_ok hi e2) hi.hr.one (by
        by_cases c : u1 = .nili
        · subst c
          refine .inr fun c => ?_
          subst c
          first | exact hnn rfl rfl | exact hnn e1 e2 | simp_all
        · exact .inl c)
      refine fin_ran H hi (ran_pure hi (x := z) ?_ hv)
      simp only [execOp, ho, Sem.run_bind] at hz ⊢
      rw [hz]; rfl
  · trivial

theorem un_ok {op : UnOp} {t : Nat} {x : Operand} (H : Here ops i o a) (hi : Inv E B ρ st a w) (ho : o.op = .unOp op t x) (E' : Env) (self : Self) :
    (hUn op x E' self o.dst st).Holds (OpPost P E B ops b k cs i rest ρ st a w) := by
  simp only [hUn]
  cases e : ev x st with
  | none => trivial
  | some u =>
    have hv := ev_ok hi e
    simp only [finO]
    cases eu : unX op u with
    | none => trivial
    | some v =>
      cases u <;> simp [unX] at eu
      · rename_i t
        cases op <;> simp at eu
        subst eu
        refine fin_ran H hi (ran_pure hi (x := .bool !t) ?_ (.bool _))
        generalize hax : a.eval x = ax at hv
        cases hv
        simp [execOp, ho, hax, Op.unary]
      · obtain ⟨z, hz, hvz⟩ := pureVal_ok eu ρ P w
        refine fin_ran H hi (ran_pure hi (x := z) ?_ hvz)
        generalize hax : a.eval x = ax at hv
        cases hv
        simp [execOp, ho, hax, hz]

end
end Go.Proofs.YtcedalofcekdkaaGreatDoor.Ex
end

section
namespace Go.Proofs.YtcedalofcekdkaaGreatDoor.Ex

structure LibOK (P : Program) (E : Env) : Prop where
  sees : ∀ ty u i, E.seesAs ty u = true → E.ti u = some i → liesAt P P.depth ty (i.size / P.cellsOf ty) 0 u 1 = true
  byte : ∀ ty, E.byteAt ty = true → P.cellsOf ty = 1 ∧ P.underlying ty = some (.int .u8)

section
variable {P : Program} {E : Env} {B : Nat} {ops : Array Oper} {b : Frame} {k : List Item} {cs : List Frame} {i : Nat} {rest : List Nat} {o : Oper}
variable {ρ : Ren} {st st' : St} {a : Act} {w : World} {v : AV}

theorem nilCheck_ok {x : Operand} (H : Here ops i o a) (hi : Inv E B ρ st a w) (ho : o.op = .nilCheck x) (E' : Env) (self : Self) :
    (hNilCheck x E' self o.dst st).Holds (OpPost P E B ops b k cs i rest ρ st a w) := by
  unfold hNilCheck
  split
  · rename_i g m off e
    have hv := ev_ok hi e
    refine fin_ran H hi (ran_pure hi (x := a.eval x) ?_ hv)
    generalize hax : a.eval x = ax at hv
    cases hv
    simp [execOp, ho, hax]
  · rename_i f p q e
    have hv := ev_ok hi e
    refine fin_ran H hi (ran_pure hi (x := a.eval x) ?_ hv)
    generalize hax : a.eval x = ax at hv
    cases hv
    simp [execOp, ho, hax]
  · rename_i f p q e
    have hv := ev_ok hi e
    refine fin_ran H hi (ran_pure hi (x := a.eval x) ?_ hv)
    generalize hax : a.eval x = ax at hv
    cases hv with
    | func _ _ _ _ _ hf => exact absurd rfl (hf _)
    | yield _ _ _ _ _ _ => simp [execOp, ho, hax]
  · trivial

theorem iface_ok (hE : EnvOK P E B) {t : Nat} {x : Operand} (H : Here ops i o a) (hi : Inv E B ρ st a w) (ho : o.op = .makeInterface t x) (self : Self) :
    (hIface t x E self o.dst st).Holds (OpPost P E B ops b k cs i rest ρ st a w) := by
  unfold hIface
  split
  · trivial
  · rename_i u ti hno e1 e2
    have hv := ev_ok hi e1
    obtain ⟨d, hd, hu, hag⟩ := (hE.ti t ti e2).underlying
    refine fin_ran H hi (ran_pure hi (x := .iface t (a.eval x)) ?_ (.iface _ _ _ hv))
    have hnd : ∀ m, d ≠ .interface m := by
      intro m e
      subst e
      obtain ⟨u', size, isAgg, zero, bts⟩ := ti
      simp only at hu
      cases hu with
      | iface _ => first | exact hno _ _ _ _ rfl | exact hno _ _ _ _ _ rfl | simp_all
      | other _ h => exact h _ rfl
    simp only [execOp, ho, Instr.makeInterface, Sem.run_bind, hd, Result.andThen_ok]
    cases d <;> first | rfl | exact absurd rfl (hnd _)
  · trivial

theorem func_ok {fn : Fn} {x y : Array Operand} (H : Here ops i o a) (hi : Inv E B ρ st a w) (ho : o.op = .makeFunc fn x y) (hfn : ∀ l, fn ≠ .yield l) (E' : Env) (self : Self) :
    (hFunc fn x y E' self o.dst st).Holds (OpPost P E B ops b k cs i rest ρ st a w) := by
  unfold hFunc
  split
  · rename_i p q e1 e2
    refine fin_ran H hi (ran_pure hi (x := .func fn (x.map a.eval) (y.map a.eval)) (by simp [execOp, ho, Instr.makeFunc]) ?_)
    have h1 := evs_ok hi e1
    have h2 := evs_ok hi e2
    have e3 : x.map a.eval = (x.toList.map a.eval).toArray := by rw [← Array.toList_map, Array.toArray_toList]
    have e4 : y.map a.eval = (y.toList.map a.eval).toArray := by rw [← Array.toList_map, Array.toArray_toList]
    rw [e3, e4]
    exact .func _ _ _ _ _ hfn h1 h2
  · trivial

theorem extract_ok {t : Operand} {n : Nat} (H : Here ops i o a) (hi : Inv E B ρ st a w) (ho : o.op = .extract t n) (E' : Env) (self : Self) :
    (hExtract t n E' self o.dst st).Holds (OpPost P E B ops b k cs i rest ρ st a w) := by
  unfold hExtract
  split
  · rename_i l e
    have hv := ev_ok hi e
    simp only [finO]
    cases en : nth l n with
    | none => trivial
    | some u =>
      rw [nth_eq] at en
      generalize hax : a.eval t = ax at hv
      cases hv with
      | tup _ xs hl =>
        obtain ⟨y, hy, hvy⟩ := hl.get en
        refine fin_ran H hi (ran_pure hi (x := y) ?_ hvy)
        simp [execOp, ho, Instr.extract, hax, hy]
  · trivial

theorem fieldOf_ok (hE : EnvOK P E B) {s f : Nat} {x : Nat × Nat × Nat} (h : fieldOf E s f = some x) :
    ∃ gs g j, (∀ w, (Go.underlying s).run P w = .ok (.struct gs) w) ∧ gs[f]? = some g ∧ g.offset = x.1 ∧ g.type = x.2.1 ∧ P.info? x.2.1 = some j ∧ j.size = x.2.2 := by
  unfold fieldOf at h
  cases et : E.ti s with
  | none => simp [et] at h
  | some ti =>
    obtain ⟨d, hd, hu, hag⟩ := (hE.ti s ti et).underlying
    obtain ⟨u, size, isAgg, zero, bts⟩ := ti
    cases u <;> simp [et] at h
    rw [nth_eq] at h
    cases hu with
    | struct _ gs hl hg =>
      obtain ⟨g, h1, h2, h3, j, h4, h5⟩ := hg f x h
      exact ⟨gs, g, j, hd, h1, h2, h3, h4, h5⟩

theorem fieldAddr_ok (hE : EnvOK P E B) {t f : Nat} {x : Operand} (H : Here ops i o a) (hi : Inv E B ρ st a w) (ho : o.op = .fieldAddr t x f) (self : Self) :
    (hFieldAddr t x f E self o.dst st).Holds (OpPost P E B ops b k cs i rest ρ st a w) := by
  unfold hFieldAddr
  split
  · rename_i g m off fo ft fs e1 e2
    have hv := ev_ok hi e1
    cases c : Nat.beq fs 0 with
    | true => trivial
    | false =>
      have hne : fs ≠ 0 := fun e => by rw [e] at c; simp at c
      obtain ⟨gs, fd, j, h1, h2, h3, h4, h5, h6⟩ := fieldOf_ok hE e2
      simp only at h3 h4 h5 h6
      generalize hax : a.eval x = ax at hv
      cases hv with
      | ptr _ _ _ L hL =>
        refine fin_ran H hi (ran_pure hi (x := .pointer (some ⟨L.b, L.s + (off + fo), none⟩)) ?_ (.ptr _ _ _ L hL))
        simp [execOp, ho, Instr.fieldAt, hax, h1, h2, Instr.sureAddr, fieldPlace, sizeOf, typeInfo, h4, h5, h6, hne, add_none, h3, Nat.add_assoc]
  · trivial

theorem part_ok (hE : EnvOK P E B) {t off : Nat} {ti : TI} {l xs' : List AV} {xs : List Value} (ht : E.ti t = some ti) (hl : takeL ti.size (dropL off l) = some xs') (hm : mk ti.isAgg xs' = some v) (hv : VRL ρ l xs) :
    ∃ y, (part t xs.toArray off).run P w = .ok y w ∧ VR ρ v y := by
  obtain ⟨h1, h2⟩ := takeL_eq _ _ _ hl
  rw [dropL_eq] at h1 h2
  have hT := hE.ti t ti ht
  have hvs : VRL ρ xs' ((xs.drop off).take ti.size) := by rw [h1]; exact (hv.drop off).take ti.size
  have hlen := hv.length
  obtain ⟨m1, m2⟩ := mk_ok hm hvs
  cases hag : ti.isAgg with
  | true =>
    refine ⟨.agg ((xs.drop off).take ti.size).toArray, ?_, by simpa [hag] using m1⟩
    simp [part, hT.isAgg_run, hag, hT.sizeOf]
  | false =>
    have hone := m2 hag
    have hlt : off < xs.length := by simp at hone; omega
    refine ⟨xs[off], ?_, ?_⟩
    · simp [part, hT.isAgg_run, hag, hlt]
    · have : ((xs.drop off).take ti.size).headD undef = xs[off] := by
        have hp : 0 < ti.size := by simp at hone; omega
        rw [List.headD_eq_head?_getD, List.head?_eq_getElem?, List.getElem?_take, if_pos hp, List.getElem?_drop]
        simp [hlt]
      have m3 : VR ρ v (((xs.drop off).take ti.size).headD undef) := by simpa only [hag, Bool.false_eq_true, if_false] using m1
      rw [this] at m3
      exact m3

theorem field_ok (hE : EnvOK P E B) {t f : Nat} {x : Operand} (H : Here ops i o a) (hi : Inv E B ρ st a w) (ho : o.op = .field t x f) (self : Self) :
    (hField t x f E self o.dst st).Holds (OpPost P E B ops b k cs i rest ρ st a w) := by
  unfold hField
  split
  · rename_i l fo ft fs e1 e2
    have hv := ev_ok hi e1
    obtain ⟨gs, fd, j, h1, h2, h3, h4, h5, h6⟩ := fieldOf_ok hE e2
    simp only at h3 h4 h5 h6
    cases et : E.ti ft with
    | none => trivial
    | some fi =>
      simp only
      cases el : takeL fi.size (dropL fo l) with
      | none => trivial
      | some l' =>
        simp only [finO]
        cases em : mk fi.isAgg l' with
        | none => trivial
        | some u =>
          generalize hax : a.eval x = ax at hv
          cases hv with
          | agg _ xs hl =>
            obtain ⟨y, hy, hvy⟩ := part_ok (P := P) (w := w) hE et el em hl
            refine fin_ran H hi (ran_pure hi (x := y) ?_ hvy)
            simp [execOp, ho, Instr.field, hax, h1, h2, asAgg, h4, h3, hy]
  · trivial

theorem intOf_ok {v : AV} {x : Value} {n : Nat} (h : intOf v = some n) (hv : VR ρ v x) : ∃ k, x = .int k n := by
  unfold intOf at h
  split at h
  · simp at h; subst h; cases hv; exact ⟨_, rfl⟩
  · cases h

theorem indexAddr_ok (hE : EnvOK P E B) {t : Nat} {x y : Operand} (H : Here ops i o a) (hi : Inv E B ρ st a w) (ho : o.op = .indexAddr t x y) (self : Self) :
    (hIndexAddr t x y E self o.dst st).Holds (OpPost P E B ops b k cs i rest ρ st a w) := by
  unfold hIndexAddr
  split
  · rename_i u1 u2 e1 e2
    have hx := ev_ok hi e1
    have hy := ev_ok hi e2
    simp only [finO]
    cases ei : indexAddrX E t u1 u2 with
    | none => trivial
    | some v =>
      unfold indexAddrX at ei
      cases en : intOf u2 with
      | none => simp [en] at ei
      | some n =>
        obtain ⟨kd, hn⟩ := intOf_ok en hy
        simp only [en] at ei
        cases et : E.ti t with
        | none => simp [et] at ei
        | some ti =>
          obtain ⟨d, hd, hu, hag⟩ := (hE.ti t ti et).underlying
          obtain ⟨u, size, isAgg, zero, bts⟩ := ti
          simp only [et] at ei
          generalize hax : a.eval x = ax at hx
          have tail : ∀ (el : Nat) (g m off len : Nat), (match Nat.blt n len, E.ti el with | true, some ei => some (AV.ptr g m (off + n * ei.size)) | _, _ => none) = some v →
              n < len ∧ ∃ ei, E.ti el = some ei ∧ v = .ptr g m (off + n * ei.size) := by
            intro el g m off len h
            cases c : Nat.blt n len with
            | false => simp [c] at h
            | true =>
              cases ee : E.ti el with
              | none => simp [c, ee] at h
              | some ei => simp [c, ee] at h; exact ⟨by simp [Nat.blt] at c; omega, ei, rfl, h.symm⟩
          cases u <;> (try simp only at ei) <;> first | (cases ei; done) | skip
          ·
            rename_i el
            cases hu
            cases u1 <;> (try simp only at ei) <;> first | (cases ei; done) | skip
            · rename_i g m off len cap
              obtain ⟨hlt, eti, hee, rfl⟩ := tail el g m off len ei
              have hs := (hE.ti el eti hee).sizeOf
              cases hx with
              | sl _ _ _ _ _ L hL =>
                refine fin_ran H hi (ran_pure hi (x := .pointer (some ⟨L.b, L.s + (off + n * eti.size), none⟩)) ?_ (.ptr _ _ _ L hL))
                simp [execOp, ho, Instr.indexAt, hax, hn, asIntOf, hd, hlt, hs, add_none, Nat.add_assoc]
            · rename_i g m off len z
              obtain ⟨hlt, eti, hee, rfl⟩ := tail el g m off len ei
              have hs := (hE.ti el eti hee).sizeOf
              cases hx with
              | su _ _ _ _ _ L hL hz hc =>
                refine fin_ran H hi (ran_pure hi (x := .pointer (some ⟨L.b, L.s + (off + n * eti.size), none⟩)) ?_ (.ptr _ _ _ L hL))
                simp [execOp, ho, Instr.indexAt, hax, hn, asIntOf, hd, hlt, hs, add_none, Nat.add_assoc]
          ·
            rename_i len el
            cases hu
            cases u1 <;> (try simp only at ei) <;> first | (cases ei; done) | skip
            rename_i g m off
            obtain ⟨hlt, eti, hee, rfl⟩ := tail el g m off len ei
            have hs := (hE.ti el eti hee).sizeOf
            cases hx with
            | ptr _ _ _ L hL =>
              refine fin_ran H hi (ran_pure hi (x := .pointer (some ⟨L.b, L.s + (off + n * eti.size), none⟩)) ?_ (.ptr _ _ _ L hL))
              simp [execOp, ho, Instr.indexAt, hax, hn, asIntOf, hd, Instr.sureAddr, hlt, hs, add_none, Nat.add_assoc]
  · trivial

theorem index_ok (hE : EnvOK P E B) {t : Nat} {x y : Operand} (H : Here ops i o a) (hi : Inv E B ρ st a w) (ho : o.op = .index t x y) (self : Self) :
    (hIndex t x y E self o.dst st).Holds (OpPost P E B ops b k cs i rest ρ st a w) := by
  unfold hIndex
  split
  · rename_i u1 u2 e1 e2
    have hx := ev_ok hi e1
    have hy := ev_ok hi e2
    simp only [finO]
    cases ei : indexX E t u1 u2 with
    | none => trivial
    | some v =>
      unfold indexX at ei
      cases en : intOf u2 with
      | none => simp [en] at ei
      | some n =>
        obtain ⟨kd, hn⟩ := intOf_ok en hy
        simp only [en] at ei
        cases et : E.ti t with
        | none => simp [et] at ei
        | some ti =>
          obtain ⟨d, hd, hu, hag⟩ := (hE.ti t ti et).underlying
          obtain ⟨u, size, isAgg, zero, bts⟩ := ti
          simp only [et] at ei
          generalize hax : a.eval x = ax at hx
          cases u <;> (try simp only at ei) <;> first | (cases ei; done) | skip
          ·
            cases hu
            cases u1 <;> (try simp only at ei) <;> first | (cases ei; done) | skip
            rename_i l
            cases en2 : nth l n with
            | none => simp [en2] at ei
            | some c =>
              simp [en2] at ei; subst ei
              rw [nth_eq] at en2
              cases hx
              have hlt : n < l.length := by
                rcases Nat.lt_or_ge n l.length with h | h
                · exact h
                · rw [List.getElem?_eq_none h] at en2; cases en2
              have hc : l[n] = c := by rw [List.getElem?_eq_getElem hlt] at en2; exact Option.some.inj en2
              refine fin_ran H hi (ran_pure hi (x := .int .u8 (Int.ofNat (c % 256))) ?_ (.int _ _))
              have hb : (bytes l)[n]? = some (UInt8.ofNat c) := by
                have hs : n < (bytes l).size := by simpa using hlt
                rw [getElem?_pos (bytes l) n hs]
                show some ((bytes l).data[n]) = _
                simp [bytes, hc]
              simp [execOp, ho, Instr.index, hax, hn, asIntOf, hd, hb]
          ·
            rename_i len el
            cases hu
            cases u1 <;> (try simp only at ei) <;> first | (cases ei; done) | skip
            rename_i l
            cases c : Nat.blt n len with
            | false => simp [c] at ei
            | true =>
              cases ee : E.ti el with
              | none => simp [c, ee] at ei
              | some eti =>
                simp [c, ee] at ei
                cases e3 : takeL eti.size (dropL (n * eti.size) l) with
                | none => simp [e3] at ei
                | some l' =>
                  simp [e3] at ei
                  have hlt : n < len := by simp [Nat.blt] at c; omega
                  cases hx with
                  | agg _ xs hl =>
                    obtain ⟨z, hz, hvz⟩ := part_ok (P := P) (w := w) hE ee e3 ei hl
                    refine fin_ran H hi (ran_pure hi (x := z) ?_ hvz)
                    simp [execOp, ho, Instr.index, hax, hn, asIntOf, hd, hlt, (hE.ti el eti ee).sizeOf, hz]
  · trivial

end
end Go.Proofs.YtcedalofcekdkaaGreatDoor.Ex
end

section
namespace Go.Proofs.YtcedalofcekdkaaGreatDoor.Ex

theorem newGrown_ok {E : Env} {B : Nat} {ρ : Ren} {st st' : St} {w : World} {ty g hw : Nat} {l : List AV} {xs : List Value} {c : Array Value} {fz : Nat × Nat} (h : HRs E B ρ st w)
    (hn : st.newG (.cells ty hw [{ m := 0, fx := false, rel := 0, cs := l }]) = some (g, st')) (hhw : l.length ≤ hw) (hv : VRL ρ l xs) (hc : ∀ j, j < xs.length → c[j]? = xs[j]?) (hlen : xs.length ≤ c.size)
    (hf : ∀ o : Nat, o < c.size → ¬ (fz.1 ≤ o ∧ o < fz.2)) :
    ∃ ρ', HRs E B ρ' st' { w with heap := w.heap.push (.cells c ty fz) } ∧ Evs ρ st w ρ' st' { w with heap := w.heap.push (.cells c ty fz) } ∧ SameT st st' ∧
      ρ'.loc g 0 = some ⟨w.heap.size, 0, c.size⟩ ∧ ρ.le ρ' := by
  obtain ⟨rfl, hs, hhp, hnx⟩ := newG_eq hn
  have hl := hv.length
  obtain ⟨h1, h2⟩ := HR.new h (.cells c ty fz) (.cells ty hw [{ m := 0, fx := false, rel := 0, cs := l }]) 0 c.size rfl (by
    intro w' hw' hle
    refine ⟨fun x hx => ?_, fun x y hx hy _ _ _ _ _ => ?_, fun x y hx hy _ => ?_, fun x y hx hy _ => ?_⟩
    · simp at hx; subst hx
      refine ⟨by simpa using hhw, ⟨w.heap.size, 0, c.size⟩, c, fz, Ren.with_at _ _ _ _, hw', by simp; omega, Nat.le_refl _, (fun h => by simp at h), fun i v e => ?_, hf⟩
      obtain ⟨y, hy, hv'⟩ := hv.get e
      have hi : i < xs.length := by
        rcases Nat.lt_or_ge i xs.length with k | k
        · exact k
        · rw [List.getElem?_eq_none k] at hy; cases hy
      exact ⟨y, by rw [Nat.zero_add, hc i hi]; exact hy, hv'.mono hle⟩
    all_goals (simp at hx hy; subst hx; subst hy; first | rfl | exact .inl rfl))
  refine ⟨ρ.with st.nx 0 ⟨w.heap.size, 0, c.size⟩, ?_, ?_, hs, Ren.with_at _ _ _ _, h2.le⟩
  · unfold HRs; rw [hhp, hnx]; exact h1
  · unfold Evs; rw [hhp, hnx]; exact h2

section
variable {P : Program} {E : Env} {B : Nat}
variable {ρ : Ren} {st st' : St} {w : World} {v : AV}

theorem byteCells_ok (ρ : Ren) (l : List Nat) : VRL ρ (byteCells l) ((bytes l).data.toList.map fun b => .int .u8 b.toNat) := by
  simp only [bytes, List.map_map]
  induction l with
  | nil => exact .nil
  | cons b l ih =>
    simp only [byteCells, List.map_cons]
    refine .cons _ _ _ _ ?_ ih
    have : (UInt8.ofNat b).toNat = b % 256 := by simp
    simp only [Function.comp, this]
    exact .int _ _

theorem byteCells_length (l : List Nat) : (byteCells l).length = l.length := by
  induction l with
  | nil => rfl
  | cons b l ih => simp [byteCells, ih]

theorem first_ok {size n : Nat} {x : AV} {cx : Value} {vs : List AV} (hf : firstX E st size x = some (n, vs)) (hx : VR ρ x cx) (h : HRs E B ρ st w) :
    ∃ xs, (∀ w2 : World, w2.heap = w.heap → (Builtin.lenOf cx).run P w2 = .ok n w2 ∧ (Builtin.firstCells size n cx).run P w2 = .ok xs.toArray w2) ∧ VRL ρ vs xs ∧ xs.length = n * size := by
  unfold firstX at hf
  cases x <;> simp only at hf <;> first | (cases hf; done) | skip
  ·
    rename_i l
    split at hf
    · simp at hf
      obtain ⟨rfl, rfl⟩ := hf
      cases hx
      refine ⟨(bytes l).data.toList.map fun b => .int .u8 b.toNat, fun w2 _ => ⟨by simp [Builtin.lenOf, lenL_eq], ?_⟩, byteCells_ok ρ l, by simp [bytes, lenL_eq]⟩
      have : (bytes l).extract 0 l.length = bytes l := by
        have := @ByteArray.extract_zero_size (bytes l)
        rwa [bytes_size] at this
      simp only [Builtin.firstCells, lenL_eq, this]
      simp [← Array.toList_map]
    · cases hf
  ·
    simp at hf
    obtain ⟨rfl, rfl⟩ := hf
    cases hx
    exact ⟨[], fun w2 _ => ⟨by simp [Builtin.lenOf], by simp [Builtin.firstCells]⟩, .nil, by simp⟩
  · rename_i g m off len cap
    cases er : st.rd E g m off (len * size) with
    | none => simp [er] at hf
    | some l =>
      simp [er] at hf
      obtain ⟨rfl, rfl⟩ := hf
      obtain ⟨L, c, ty, fz, xs, hL, hb, hvl, hlen, hc⟩ := rd_ok h er
      cases hx with
      | sl _ _ _ _ _ L' hL' =>
        rw [hL] at hL'; cases hL'
        refine ⟨xs, fun w2 hw2 => ?_, hvl, hlen⟩
        have hb2 : w2.heap[L.b]? = some (.cells c ty fz) := by rw [hw2]; exact hb
        have hrl := run_loadCells (P := P) hb2 (L.s + off) xs hc
        rw [hlen] at hrl
        exact ⟨by simp [Builtin.lenOf], by simp [Builtin.firstCells, hrl]⟩
  · rename_i g m off len z
    cases er : st.rd E g m off (len * size) with
    | none => simp [er] at hf
    | some l =>
      simp [er] at hf
      obtain ⟨rfl, rfl⟩ := hf
      obtain ⟨L, c, ty, fz, xs, hL, hb, hvl, hlen, hc⟩ := rd_ok h er
      cases hx with
      | su _ _ _ _ _ L' hL' =>
        rw [hL] at hL'; cases hL'
        refine ⟨xs, fun w2 hw2 => ?_, hvl, hlen⟩
        have hb2 : w2.heap[L.b]? = some (.cells c ty fz) := by rw [hw2]; exact hb
        have hrl := run_loadCells (P := P) hb2 (L.s + off) xs hc
        rw [hlen] at hrl
        exact ⟨by simp [Builtin.lenOf], by simp [Builtin.firstCells, hrl]⟩
  ·
    simp at hf
    obtain ⟨rfl, rfl⟩ := hf
    cases hx
    exact ⟨[], fun w2 _ => ⟨by simp [Builtin.lenOf], by simp [Builtin.firstCells, loadCells, loadCellsFrom]⟩, .nil, by simp⟩

theorem growBy_le (n : Nat) : ∀ (r c : Nat), c ≤ 2 * n + 1000 → Builtin.growBy n r c ≤ 2 * n + 1000
  | 0, c, h => h
  | r + 1, c, h => by
    unfold Builtin.growBy
    split
    · exact h
    · exact growBy_le n r _ (by omega)

theorem nextcap_le {n c : Nat} (h : c < n) : Builtin.nextslicecap n c ≤ 2 * n + 1000 := by
  unfold Builtin.nextslicecap
  split
  · omega
  · split
    · omega
    · exact growBy_le n 4 c (by omega)

structure NewRow (w : World) (ty z need : Nat) (xs : List Value) (x : Value) (w' : World) : Prop where
  out : ∃ (c : Array Value) (cap d : Nat), w' = { w with heap := w.heap.push (.cells c ty (0, 0)), drawn := d } ∧ x = .slice (some ⟨w.heap.size, 0, none⟩) need cap ∧ need ≤ cap ∧ c.size = cap * z ∧ xs.length ≤ c.size ∧ ∀ j, j < xs.length → c[j]? = xs[j]?

theorem zeroCells_size (z : Array Value) (n : Nat) : (Builtin.zeroCells z n).size = n * z.size := by simp [Builtin.zeroCells]

theorem run_append {ts : Array TypeId} {T : TypeId} {t e t2 : Nat} {d2 : TypeDesc} {base : Option Addr} {sLen sCap n z : Nat} {cx : Value} {ys xs : List Value} {f : TypeInfo}
    (ht : ts[0]? = some t) (ht2 : ts[1]? = some t2) (hd : ∀ w, (Go.underlying t).run P w = .ok (.slice e) w) (hd2 : ∀ w, (Go.underlying t2).run P w = .ok d2 w) (hnm : d2 = .string ∨ ∃ q, d2 = .slice q)
    (hs : ∀ w, (sizeOf e).run P w = .ok z w) (hf : ∀ w, (typeInfo e).run P w = .ok f w) (hlen : (Builtin.lenOf cx).run P w = .ok n w)
    (hnew : (Builtin.firstCells z n cx).run P w = .ok xs.toArray w) :
    (sLen + n ≤ sCap → (base = none → xs = []) → ∀ w', (∀ a, base = some a → (storeCells (a.add (sLen * z)) xs).run P w = .ok () w') → (base = none → w' = w) →
      (Builtin.append_ ts T #[.slice base sLen sCap, cx]).run P w = .ok (.slice base (sLen + n) sCap) w') ∧
    (¬ sLen + n ≤ sCap → sLen + n < 1000000 → 0 < f.bytes → f.bytes < 1000000 → ∀ zv, (∀ w, (zeroValue e).run P w = .ok zv w) → zv.cells.size = z → ys.length = sLen * z → xs.length = n * z →
      (Builtin.firstCells z sLen (.slice base sLen sCap)).run P w.drew = .ok ys.toArray w.drew →
      (Builtin.firstCells z n cx).run P w.drew = .ok xs.toArray w.drew →
      ∃ x w', (Builtin.append_ ts T #[.slice base sLen sCap, cx]).run P w = .ok x w' ∧ NewRow w e z (sLen + n) (ys ++ xs) x w') := by
  constructor
  · intro hcap hnil w' hst hno
    cases base with
    | none =>
      have hw := hno rfl
      subst hw
      rcases hnm with rfl | ⟨q, rfl⟩ <;> simp [Builtin.append_, ht, hd, hs, ht2, hd2, hlen, hcap, hnew]
    | some a =>
      have := hst a rfl
      rcases hnm with rfl | ⟨q, rfl⟩ <;> simp [Builtin.append_, ht, hd, hs, ht2, hd2, hlen, hcap, hnew, this]
  · intro hcap hsmall hb0 hb1 zv hz hzz hyl hxl hold hnew'
    have hmax : ¬ (IntKind.i64.max < ((sLen : Int) + (n : Int)) ∧ f.bytes = 0) := by omega
    have hnc := nextcap_le (n := sLen + n) (c := sCap) (by omega)
    have hbig : ¬ 2 ^ 48 < Builtin.nextslicecap (sLen + n) sCap * f.bytes := by
      have : Builtin.nextslicecap (sLen + n) sCap * f.bytes ≤ (2 * (sLen + n) + 1000) * 1000000 := Nat.mul_le_mul hnc (by omega)
      omega
    have hforced : (Question.appendCap (sLen + n) sCap e).forced = false := rfl
    generalize hcp : (Question.appendCap (sLen + n) sCap e).cut (w.tape w.drawn (Question.appendCap (sLen + n) sCap e)) = cap
    have hcap2 : sLen + n ≤ cap := by rw [← hcp]; simp [Question.cut]
    have e1 : (ys ++ xs).toArray ++ Builtin.zeroCells zv.cells (cap - (sLen + n)) = ys.toArray ++ (xs.toArray ++ Builtin.zeroCells zv.cells (cap - (sLen + n))) := by
      rw [← Array.append_assoc]; simp
    refine ⟨.slice (some ⟨w.heap.size, 0, none⟩) (sLen + n) cap, { w with heap := w.heap.push (.cells (ys.toArray ++ xs.toArray ++ Builtin.zeroCells zv.cells (cap - (sLen + n))) e (0, 0)), drawn := w.drawn + 1 }, ?_, ?_⟩
    · rcases hnm with rfl | ⟨q, rfl⟩ <;> simp [Builtin.append_, ht, hd, hs, ht2, hd2, hlen, hcap, hf, Nat.pos_iff_ne_zero.1 hb0, hbig, hforced, hcp, hold, hnew', hz, newRow] <;> (rw [e1]; rfl)
    · refine ⟨_, cap, _, rfl, rfl, hcap2, ?_, ?_, ?_⟩
      · simp [zeroCells_size, hzz, hyl, hxl]
        rw [← Nat.add_mul, ← Nat.add_mul]
        congr 1; omega
      · simp
      · intro j hj
        rw [Array.getElem?_append_left (by simpa using hj)]
        simp
end
end Go.Proofs.YtcedalofcekdkaaGreatDoor.Ex
end

section
namespace Go.Proofs.YtcedalofcekdkaaGreatDoor.Ex
section
variable {P : Program} {E : Env} {B : Nat}
variable {ρ : Ren} {st st' : St} {w : World} {v : AV}

structure AppIn (P : Program) (w : World) (ts : Array TypeId) (t e t2 z n : Nat) (ei : TI) (d2 : TypeDesc) (f : TypeInfo) (zv : Value) (cx : Value) (xs : List Value) : Prop where
  t0 : ts[0]? = some t
  t1 : ts[1]? = some t2
  rd : ∀ w, (Go.underlying t).run P w = .ok (.slice e) w
  rd2 : ∀ w, (Go.underlying t2).run P w = .ok d2 w
  nm : d2 = .string ∨ ∃ q, d2 = .slice q
  rs : ∀ w, (sizeOf e).run P w = .ok z w
  rf : ∀ w, (typeInfo e).run P w = .ok f w
  fb : 0 < f.bytes ∧ f.bytes < 1000000
  rz : ∀ w, (zeroValue e).run P w = .ok zv w
  zs : zv.cells.size = z
  zpos : 0 < z
  rl : (Builtin.lenOf cx).run P w = .ok n w
  rn : (Builtin.firstCells z n cx).run P w = .ok xs.toArray w
  rn' : (Builtin.firstCells z n cx).run P w.drew = .ok xs.toArray w.drew
  xl : xs.length = n * z

theorem run_first_cells {size n : Nat} {L : Loc} {off sCap : Nat} {c : Array Value} {ty : Nat} {fz : Nat × Nat} {ys : List Value} {w : World} (hb : w.heap[L.b]? = some (.cells c ty fz)) (hl : ys.length = n * size) (hc : ∀ j, j < ys.length → c[L.s + off + j]? = ys[j]?) :
    (Builtin.firstCells size n (.slice (some ⟨L.b, L.s + off, none⟩) n sCap)).run P w = .ok ys.toArray w := by
  have := run_loadCells (P := P) hb (L.s + off) ys hc
  rw [hl] at this
  simp [Builtin.firstCells, this]

theorem newRow_ok {ty z need : Nat} {zs : List AV} {ys : List Value} {x : Value} {w' : World} (h : HRs E B ρ st w) (hz : 0 < z) (hy : VRL ρ zs ys) (hN : NewRow w ty z need ys x w')
    (hg : grown st ty need z zs = some (v, st')) : ∃ ρ', VR ρ' v x ∧ HRs E B ρ' st' w' ∧ Evs ρ st w ρ' st' w' ∧ SameT st st' := by
  obtain ⟨c, cap, d, rfl, rfl, h1, h2, h3, h4⟩ := hN.out
  unfold grown at hg
  cases en : st.newG (.cells ty (lenL zs) [{ m := 0, fx := false, rel := 0, cs := zs }]) with
  | none => simp [en] at hg
  | some p =>
    obtain ⟨g, s⟩ := p
    simp [en] at hg
    obtain ⟨rfl, rfl⟩ := hg
    have hw : HRs E B ρ st { w with drawn := d } := HR.drawn h d
    obtain ⟨ρ', a1, a2, a3, a4, a5⟩ := newGrown_ok (fz := (0, 0)) hw en (by rw [lenL_eq]; exact Nat.le_refl _) hy h4 h3 (fun o _ => by simp)
    refine ⟨ρ', ?_, a1, (Ev.drawn ρ st.hp st.nx w d).trans a2, a3⟩
    have hcap : c.size / z = cap := by rw [h2]; exact Nat.mul_div_cancel _ hz
    have := VR.su (ρ := ρ') g 0 0 need z ⟨w.heap.size, 0, c.size⟩ a4 hz (by simp; rw [h2]; exact Nat.mul_le_mul_right _ h1)
    simpa [hcap] using this

theorem growX_ok {ts : Array TypeId} {T t e t2 n : Nat} {ei : TI} {d2 : TypeDesc} {f : TypeInfo} {zv cx cs : Value} {vs : List AV} {xs : List Value} {g m off len z : Nat}
    (hA : AppIn P w ts t e t2 z n ei d2 f zv cx xs) (h : HRs E B ρ st w) (hv : VRL ρ vs xs) (hs : VR ρ (.su g m off len z) cs) (hp : allPlain vs = true) (hn0 : 0 < n) (hsm : len + n < 1000000)
    (hg : growX st e g m off len z n vs = some (v, st')) :
    ∃ x w' ρ', (Builtin.append_ ts T #[cs, cx]).run P w = .ok x w' ∧ VR ρ' v x ∧ HRs E B ρ' st' w' ∧ Evs ρ st w ρ' st' w' ∧ SameT st st' := by
  unfold growX at hg
  cases hb : Nat.blt g NG with
  | true => simp [hb] at hg
  | false =>
    simp only [hb] at hg
    rw [getG_eq] at hg
    cases ho : st.hp.get g with
    | none => simp [ho] at hg
    | some o =>
      cases o <;> simp only [ho] at hg <;> first | (cases hg; done) | skip
      rename_i ty hw ms
      cases hf : findM m ms with
      | none => simp [hf] at hg
      | some y =>
        simp only [hf] at hg
        cases hfe : (y.fx || !Nat.beq ty e) with
        | true => simp [hfe] at hg
        | false =>
          have hfx : y.fx = false := by simp at hfe; exact hfe.1
          have hety : e = ty := by simp at hfe; first | exact hfe.2.symm | exact (Nat.eq_of_beq_eq_true hfe.2).symm
          cases ht : takeL (len * z) (dropL off y.cs) with
          | none => simp [hfe, ht] at hg
          | some old =>
            simp only [hfe, ht] at hg
            obtain ⟨hy, rfl⟩ := findM_mem hf
            have hng := (h.obj g _ ho).1
            obtain ⟨hO1, hO2, hO3, hO4⟩ := (h.obj g _ ho).2.2
            obtain ⟨hrel, L, c, fz, hL, hm⟩ := hO1 y hy
            obtain ⟨t1, t2'⟩ := takeL_eq _ _ _ ht
            rw [dropL_eq] at t1 t2'
            have hoff : off + len * z ≤ y.cs.length ∨ len * z = 0 := by simp at t2'; omega
            cases hs with
            | su _ _ _ _ _ L' hL' hz hc =>
              rw [hL] at hL'; cases hL'

              have hold : ∃ ys : List Value, VRL ρ old ys ∧ ys.length = len * z ∧ ∀ j, j < ys.length → c[L.s + off + j]? = ys[j]? := by
                refine ⟨(List.range (len * z)).map fun j => (c[L.s + off + j]?).getD undef, .of_get (by rw [t1]; simp; omega) fun i a b ha hb' => ?_, by simp, fun j hj => ?_⟩
                · rw [t1] at ha
                  by_cases hi : i < len * z
                  · rw [List.getElem?_take, if_pos hi, List.getElem?_drop] at ha
                    obtain ⟨q, hq, hvq⟩ := hm.val (off + i) a ha
                    simp [hi] at hb'
                    rw [Nat.add_assoc, hq] at hb'; simp at hb'; subst hb'; exact hvq
                  · rw [List.getElem?_take, if_neg hi] at ha; cases ha
                · have hj' : j < len * z := by simpa using hj
                  have : off + j < y.cs.length := by omega
                  obtain ⟨q, hq, _⟩ := hm.val (off + j) y.cs[off + j] (by simp [this])
                  simp [hj']
                  rw [Nat.add_assoc, hq]; rfl
              obtain ⟨ys, hys, hyl, hyc⟩ := hold
              have hvl := hv.length
              have hol := hys.length

              obtain ⟨A1, A2⟩ := run_append (P := P) (w := w) (T := T) (base := some ⟨L.b, L.s + off, none⟩) (sLen := len) (sCap := (L.t - L.s - off) / z) (ys := ys) (xs := xs) (n := n) (cx := cx) hA.t0 hA.t1 hA.rd hA.rd2 hA.nm hA.rs hA.rf hA.rl hA.rn
              have hnone : ρ.loc g st.nx = none := h.none_of_le (.inr (Nat.le_refl _))

              have common : ∀ (hw2 : Nat) (keep : List Mem) (w' : World) (M : Loc) (c' : Array Value) (fz' : Nat × Nat),
                  (∀ q, q ∈ keep → q ∈ ms) → (y.rel + off + (len + n) * z ≤ hw2) → (∀ q, q ∈ keep → q.rel + q.cs.length ≤ hw2) →
                  w'.os = w.os → w'.tape = w.tape → w'.output = w.output → w.heap.size ≤ w'.heap.size →
                  (M.b = L.b ∨ w.heap.size ≤ M.b) → (∀ r, r < w.heap.size → r ≠ L.b → w'.heap[r]? = w.heap[r]?) →
                  w'.heap[M.b]? = some (.cells c' ty fz') → M.s + (len + n) * z ≤ M.t → M.t ≤ c'.size → (∀ o : Nat, o < c'.size → ¬ (fz'.1 ≤ o ∧ o < fz'.2)) →
                  (∀ j, j < (ys ++ xs).length → c'[M.s + j]? = (ys ++ xs)[j]?) →
                  (∀ q, q ∈ keep → ∃ N d fq, ρ.loc g q.m = some N ∧ MemR ρ w' ty N q d fq ∧ (N.b = M.b → N.s = N.t ∨ M.s = M.t ∨ N.s + (y.rel + off) = M.s + q.rel)) →
                  HR E B (ρ.with g st.nx M) (Tr.put (some (.cells ty hw2 ({ m := st.nx, fx := false, rel := y.rel + off, cs := appL old vs } :: keep))) (pathOf g) st.hp) (st.nx + 1) w' ∧
                  Ev ρ st.hp st.nx w (ρ.with g st.nx M) (Tr.put (some (.cells ty hw2 ({ m := st.nx, fx := false, rel := y.rel + off, cs := appL old vs } :: keep))) (pathOf g) st.hp) (st.nx + 1) w' := by
                intro hw2 keep w' M c' fz' k1 k2 k3 e1 e2 e3 e4 e5 e6 e7 e8 e9 e10 e11 e12
                have hle := Ren.le_with (ρ := ρ) (g := g) (m := st.nx) M hnone
                have hblk : ∀ q, q ∈ ms → ∀ N, ρ.loc g q.m = some N → BlkOf ρ st.hp g N.b := fun q hq N hN => ⟨_, q.m, N, ho, by simp [memsOf]; exact ⟨q, hq, rfl⟩, hN, rfl⟩
                refine h.update hle g _ ?_ (Nat.le_succ _) ?_ hng (Nat.lt_succ_of_lt (h.obj g _ ho).2.1) e1 e2 e3 e4 ?_ ?_
                · intro g' m' N hN
                  unfold Ren.with at hN
                  by_cases cc : g' = g ∧ m' = st.nx
                  · obtain ⟨rfl, rfl⟩ := cc; exact ⟨Nat.lt_succ_of_lt (h.obj g' _ ho).2.1, Nat.lt_succ_self _⟩
                  · simp only [cc, if_false] at hN; have := h.fresh g' m' N hN; omega
                · intro g' m' N hN
                  unfold Ren.with at hN
                  by_cases cc : g' = g ∧ m' = st.nx
                  · simp only [cc, and_self, if_true, Option.some.injEq] at hN
                    subst hN
                    refine .inr ⟨cc.1, e5.imp (fun e => ?_) id, .inr (by omega)⟩
                    rw [e]; exact hblk y hy L hL
                  · simp only [cc, if_false] at hN; exact .inl hN
                · intro r hr hnb
                  exact e6 r hr fun e => hnb (e ▸ hblk y hy L hL)
                · intro o2 eo
                  cases eo
                  have hcs : appL old vs = old ++ vs := appL_eq _ _
                  have hyx : VRL ρ (old ++ vs) (ys ++ xs) := hys.append hv
                  have hlen2 : (old ++ vs).length = (len + n) * z := by
                    rw [hyx.length]; simp [hyl, hA.xl, Nat.add_mul]
                  refine ⟨⟨fun q hq => ?_, fun q r hq hr N K hN hK e => ?_, fun q r hq hr e => ?_, fun q r hq hr e => ?_⟩, fun m' N hm' hN => ?_⟩
                  · rcases List.mem_cons.1 hq with rfl | hq
                    · refine ⟨by simp only [hcs, hlen2]; omega, M, c', fz', Ren.with_at _ _ _ _, e7, by simp only [hcs, hlen2]; exact e8, e9, fun h => by simp at h, fun i u eu => ?_, e10⟩
                      simp only [hcs] at eu
                      obtain ⟨q, hq, hvq⟩ := hyx.get eu
                      refine ⟨q, ?_, hvq.mono hle⟩
                      rw [e11 i ?_]; exact hq
                      rcases Nat.lt_or_ge i (ys ++ xs).length with k | k
                      · exact k
                      · rw [List.getElem?_eq_none k] at hq; cases hq
                    · obtain ⟨N, d, fq, hN, hmr, _⟩ := e12 q hq
                      exact ⟨k3 q hq, N, d, fq, hle.loc _ _ _ hN, hmr.blk, hmr.len, hmr.lim, hmr.fx, fun i u eu => let ⟨p, hp, hvp⟩ := hmr.val i u eu; ⟨p, hp, hvp.mono hle⟩, hmr.soft⟩
                  · rcases List.mem_cons.1 hq with rfl | hq <;> rcases List.mem_cons.1 hr with rfl | hr
                    · exact .inl rfl
                    · rw [Ren.with_at] at hN; cases hN
                      obtain ⟨K', d, fq, hK', _, hco⟩ := e12 r hr
                      have := hle.loc _ _ _ hK'; rw [this] at hK; cases hK
                      rcases hco e.symm with x | x | x
                      · exact .inr (.inr (.inl x))
                      · exact .inr (.inl x)
                      · exact .inr (.inr (.inr x.symm))
                    · rw [Ren.with_at] at hK; cases hK
                      obtain ⟨N', d, fq, hN', _, hco⟩ := e12 q hq
                      have := hle.loc _ _ _ hN'; rw [this] at hN; cases hN
                      rcases hco e with x | x | x
                      · exact .inr (.inl x)
                      · exact .inr (.inr (.inl x))
                      · exact .inr (.inr (.inr x))
                    · obtain ⟨N', d, fq, hN', _, _⟩ := e12 q hq
                      obtain ⟨K', d', fq', hK', _, _⟩ := e12 r hr
                      have a1 := hle.loc _ _ _ hN'; rw [a1] at hN; cases hN
                      have a2 := hle.loc _ _ _ hK'; rw [a2] at hK; cases hK
                      exact hO2 q r (k1 q hq) (k1 r hr) _ _ hN' hK' e
                  · rcases List.mem_cons.1 hq with rfl | hq <;> rcases List.mem_cons.1 hr with rfl | hr
                    · rfl
                    · obtain ⟨K', _, _, hK', _⟩ := e12 r hr; simp only at e; rw [← e, hnone] at hK'; cases hK'
                    · obtain ⟨K', _, _, hK', _⟩ := e12 q hq; simp only at e; rw [e, hnone] at hK'; cases hK'
                    · exact hO3 q r (k1 q hq) (k1 r hr) e
                  · rcases List.mem_cons.1 hq with rfl | hq
                    · simp at e
                    · exact absurd (hO4 q y (k1 q hq) hy e) (fun hqy => by rw [hqy, hfx] at e; cases e)
                  · simp only [memsOf, List.map_cons, List.mem_cons, List.mem_map] at hm'
                    rcases hm' with rfl | ⟨q, hq, rfl⟩
                    · rw [Ren.with_at] at hN; cases hN
                      exact e5.imp (fun e => by rw [e]; exact hblk y hy L hL) id
                    · obtain ⟨N', _, _, hN', _⟩ := e12 q hq
                      have a1 := hle.loc _ _ _ hN'; rw [a1] at hN; cases hN
                      exact .inl (hblk q (k1 q hq) _ hN')

              have hcap : ∀ q : Nat, q ≤ (L.t - L.s - off) / z → L.s + off + q * z ≤ L.t := by
                intro q hq
                have h1 : q * z ≤ (L.t - L.s - off) / z * z := Nat.mul_le_mul_right _ hq
                have h2 : (L.t - L.s - off) / z * z ≤ L.t - L.s - off := Nat.div_mul_le_self _ _
                have := hc
                rcases Nat.eq_zero_or_pos (q * z) with h3 | h3
                · omega
                · omega
              have hxl := hA.xl
              have hnz : 0 < n * z := Nat.mul_pos hn0 hz
              by_cases hin : len + n ≤ (L.t - L.s - off) / z
              ·
                have hlim := hcap (len + n) hin
                rw [Nat.add_mul] at hlim
                obtain ⟨w', c', hr, hwr⟩ := run_storeCells (P := P) (L.s + off + len * z) xs 0 w c hm.blk (allPlain_one h.one hp hv) (by have := hm.lim; omega) hm.soft
                have hrun := A1 hin (fun e => by cases e) w' (fun a ea => by cases ea; rw [add_none]; exact hr) (fun e => by cases e)
                have e11 : ∀ j, j < (ys ++ xs).length → c'[L.s + off + j]? = (ys ++ xs)[j]? := by
                  intro j hj
                  by_cases hjj : j < ys.length
                  · rw [List.getElem?_append_left hjj, hwr.old _ (by omega)]; exact hyc j hjj
                  · rw [List.getElem?_append_right (by omega)]
                    have := hwr.new (j - ys.length) (by simp at hj; omega)
                    rw [show L.s + off + len * z + 0 + (j - ys.length) = L.s + off + j by omega] at this
                    exact this
                have hval : ∀ (m' : Nat) (ρ' : Ren), ρ'.loc g m' = some ⟨L.b, L.s + off, L.t⟩ → VR ρ' (.su g m' 0 (len + n) z) (.slice (some ⟨L.b, L.s + off, none⟩) (len + n) ((L.t - L.s - off) / z)) := by
                  intro m' ρ' hl'
                  have := VR.su (ρ := ρ') g m' 0 (len + n) z ⟨L.b, L.s + off, L.t⟩ hl' hz (by simp only [Nat.add_mul]; omega)
                  simpa [Nat.sub_sub] using this
                cases hend : Nat.beq (y.rel + off + len * z) hw with
                | true =>
                  have hend' := Nat.eq_of_beq_eq_true hend
                  simp only [hend] at hg
                  cases ea : st.addM g ty (hw + n * z) { m := 0, fx := false, rel := y.rel + off, cs := appL old vs } ms with
                  | none => simp [ea] at hg
                  | some p =>
                    obtain ⟨m', s'⟩ := p
                    simp [ea] at hg
                    obtain ⟨rfl, rfl⟩ := hg
                    obtain ⟨rfl, hs', hhp, hnx⟩ := addM_eq ea
                    obtain ⟨b1, b2⟩ := common (hw + n * z) ms w' ⟨L.b, L.s + off, L.t⟩ c' fz (fun q hq => hq) (by rw [Nat.add_mul]; omega) (fun q hq => by have := (hO1 q hq).1; omega)
                      hwr.os hwr.tape hwr.output (by rw [hwr.heap]; exact Nat.le_refl _) (.inl rfl) (fun r _ hr' => hwr.other r hr') hwr.blk (by simp only [Nat.add_mul]; omega) (by rw [hwr.size]; exact hm.lim) (by rw [hwr.size]; exact hm.soft) e11 (by
                        intro q hq
                        obtain ⟨hqr, N, d, fq, hN, hmq⟩ := hO1 q hq
                        by_cases hNb : N.b = L.b
                        · have hcq : d = c ∧ fq = fz := by
                            have := hmq.blk
                            rw [hNb, hm.blk] at this
                            simp at this
                            exact ⟨this.1.symm, this.2.symm⟩
                          obtain ⟨rfl, rfl⟩ := hcq
                          have hco := hO2 q y hq hy N L hN hL hNb
                          have hpos : N.s = N.t ∨ N.s + y.rel = L.s + q.rel := by
                            rcases hco with rfl | x | x | x
                            · rw [hL] at hN; cases hN; exact .inr rfl
                            · exact .inl x
                            · omega
                            · exact .inr x
                          refine ⟨N, c', fq, hN, ⟨by rw [hNb]; exact hwr.blk, hmq.len, by rw [hwr.size]; exact hmq.lim, fun hf' => ?_, fun i u eu => ?_, by rw [hwr.size]; exact hmq.soft⟩, fun _ => ?_⟩
                          · have := hO4 q y hq hy hf'; rw [this, hfx] at hf'; cases hf'
                          · obtain ⟨p, hp', hvp⟩ := hmq.val i u eu
                            have hi : i < q.cs.length := by
                              rcases Nat.lt_or_ge i q.cs.length with k | k
                              · exact k
                              · rw [List.getElem?_eq_none k] at eu; cases eu
                            refine ⟨p, ?_, hvp⟩
                            rw [hwr.old _ ?_]; exact hp'
                            rcases hpos with x | x
                            · have := hmq.len; omega
                            · left; omega
                          · rcases hpos with x | x
                            · exact .inl x
                            · exact .inr (.inr (by simp only; omega))
                        · refine ⟨N, d, fq, hN, ⟨by rw [hwr.other _ hNb]; exact hmq.blk, hmq.len, hmq.lim, hmq.fx, hmq.val, hmq.soft⟩, fun e => absurd e hNb⟩)
                    refine ⟨_, w', ρ.with g st.nx ⟨L.b, L.s + off, L.t⟩, hrun, hval _ _ (Ren.with_at _ _ _ _), ?_, ?_, hs'⟩
                    · unfold HRs; rw [hhp, hnx]; exact b1
                    · unfold Evs; rw [hhp, hnx]; exact b2
                | false =>
                  simp only [hend] at hg
                  cases ea : st.addM g ty (y.rel + off + (len + n) * z) { m := 0, fx := false, rel := y.rel + off, cs := appL old vs } [] with
                  | none => simp [ea] at hg
                  | some p =>
                    obtain ⟨m', s'⟩ := p
                    simp [ea] at hg
                    obtain ⟨rfl, rfl⟩ := hg
                    obtain ⟨rfl, hs', hhp, hnx⟩ := addM_eq ea
                    obtain ⟨b1, b2⟩ := common (y.rel + off + (len + n) * z) [] w' ⟨L.b, L.s + off, L.t⟩ c' fz (fun q hq => by simp at hq) (Nat.le_refl _) (fun q hq => by simp at hq)
                      hwr.os hwr.tape hwr.output (by rw [hwr.heap]; exact Nat.le_refl _) (.inl rfl) (fun r _ hr' => hwr.other r hr') hwr.blk (by simp only [Nat.add_mul]; omega) (by rw [hwr.size]; exact hm.lim) (by rw [hwr.size]; exact hm.soft) e11 (fun q hq => by simp at hq)
                    refine ⟨_, w', ρ.with g st.nx ⟨L.b, L.s + off, L.t⟩, hrun, hval _ _ (Ren.with_at _ _ _ _), ?_, ?_, hs'⟩
                    · unfold HRs; rw [hhp, hnx]; exact b1
                    · unfold Evs; rw [hhp, hnx]; exact b2
              ·
                have hbd : w.drew.heap[L.b]? = some (.cells c ty fz) := hm.blk
                obtain ⟨x, w', hrun, hN⟩ := A2 hin hsm hA.fb.1 hA.fb.2 zv hA.rz hA.zs hyl hA.xl (run_first_cells hbd hyl hyc) hA.rn'
                obtain ⟨c', cap, d, rfl, rfl, h1, h2, h3, h4⟩ := hN.out
                have hcz : c'.size / z = cap := by rw [h2]; exact Nat.mul_div_cancel _ hz
                have hle2 : (len + n) * z ≤ c'.size := by rw [h2]; exact Nat.mul_le_mul_right _ h1
                have hval : ∀ (m' : Nat) (ρ' : Ren), ρ'.loc g m' = some ⟨w.heap.size, 0, c'.size⟩ → VR ρ' (.su g m' 0 (len + n) z) (.slice (some ⟨w.heap.size, 0, none⟩) (len + n) cap) := by
                  intro m' ρ' hl'
                  have := VR.su (ρ := ρ') g m' 0 (len + n) z ⟨w.heap.size, 0, c'.size⟩ hl' hz (by simp; exact hle2)
                  simpa [hcz] using this
                have hpush : ∀ r, r < w.heap.size → (w.heap.push (.cells c' ty (0, 0)))[r]? = w.heap[r]? := fun r hr => by rw [Array.getElem?_push, if_neg (by omega)]
                subst hety
                have e6 : ∀ r, r < w.heap.size → r ≠ L.b → (w.heap.push (.cells c' e (0, 0)))[r]? = w.heap[r]? := fun r hr _ => hpush r hr
                have keepIt : ∀ q, q ∈ ms → ∃ N d' fq, ρ.loc g q.m = some N ∧ MemR ρ { w with heap := w.heap.push (.cells c' e (0, 0)), drawn := d } e N q d' fq ∧ (N.b = w.heap.size → N.s = N.t ∨ 0 = c'.size ∨ N.s + (y.rel + off) = 0 + q.rel) := by
                  intro q hq
                  obtain ⟨hqr, N, d', fq, hN', hmq⟩ := hO1 q hq
                  have hNlt : N.b < w.heap.size := by
                    rcases Nat.lt_or_ge N.b w.heap.size with k | k
                    · exact k
                    · have := hmq.blk; rw [Array.getElem?_eq_none k] at this; cases this
                  exact ⟨N, d', fq, hN', ⟨by show (w.heap.push _)[N.b]? = _; rw [hpush _ hNlt]; exact hmq.blk, hmq.len, hmq.lim, hmq.fx, hmq.val, hmq.soft⟩, fun e => by omega⟩
                cases hend : Nat.beq (y.rel + off + len * z) hw with
                | true =>
                  have hend' := Nat.eq_of_beq_eq_true hend
                  simp only [hend] at hg
                  cases ea : st.addM g e (hw + n * z) { m := 0, fx := false, rel := y.rel + off, cs := appL old vs } ms with
                  | none => simp [ea] at hg
                  | some p =>
                    obtain ⟨m', s'⟩ := p
                    simp [ea] at hg
                    obtain ⟨rfl, rfl⟩ := hg
                    obtain ⟨rfl, hs', hhp, hnx⟩ := addM_eq ea
                    obtain ⟨b1, b2⟩ := common (hw + n * z) ms { w with heap := w.heap.push (.cells c' e (0, 0)), drawn := d } ⟨w.heap.size, 0, c'.size⟩ c' (0, 0) (fun q hq => hq) (by rw [Nat.add_mul]; omega) (fun q hq => by have := (hO1 q hq).1; omega)
                      rfl rfl rfl (by simp) (.inr (Nat.le_refl _)) e6 (by simp) (by simpa using hle2) (Nat.le_refl _) (fun o _ => by simp) (fun j hj => by rw [Nat.zero_add]; exact h4 j hj) keepIt
                    refine ⟨_, _, ρ.with g st.nx ⟨w.heap.size, 0, c'.size⟩, hrun, hval _ _ (Ren.with_at _ _ _ _), ?_, ?_, hs'⟩
                    · unfold HRs; rw [hhp, hnx]; exact b1
                    · unfold Evs; rw [hhp, hnx]; exact b2
                | false =>
                  simp only [hend] at hg
                  cases ea : st.addM g e (y.rel + off + (len + n) * z) { m := 0, fx := false, rel := y.rel + off, cs := appL old vs } [] with
                  | none => simp [ea] at hg
                  | some p =>
                    obtain ⟨m', s'⟩ := p
                    simp [ea] at hg
                    obtain ⟨rfl, rfl⟩ := hg
                    obtain ⟨rfl, hs', hhp, hnx⟩ := addM_eq ea
                    obtain ⟨b1, b2⟩ := common (y.rel + off + (len + n) * z) [] { w with heap := w.heap.push (.cells c' e (0, 0)), drawn := d } ⟨w.heap.size, 0, c'.size⟩ c' (0, 0) (fun q hq => by simp at hq) (Nat.le_refl _) (fun q hq => by simp at hq)
                      rfl rfl rfl (by simp) (.inr (Nat.le_refl _)) e6 (by simp) (by simpa using hle2) (Nat.le_refl _) (fun o _ => by simp) (fun j hj => by rw [Nat.zero_add]; exact h4 j hj) (fun q hq => by simp at hq)
                    refine ⟨_, _, ρ.with g st.nx ⟨w.heap.size, 0, c'.size⟩, hrun, hval _ _ (Ren.with_at _ _ _ _), ?_, ?_, hs'⟩
                    · unfold HRs; rw [hhp, hnx]; exact b1
                    · unfold Evs; rw [hhp, hnx]; exact b2

theorem appendX_ok (hE : EnvOK P E B) {ts : Array TypeId} {T t t2 : Nat} {s x : AV} {cs cx : Value} (h : HRs E B ρ st w) (ht0 : ts[0]? = some t) (ht1 : ts[1]? = some t2)
    (hs : VR ρ s cs) (hx : VR ρ x cx) (ha : appendX E st t t2 s x = some (v, st')) :
    ∃ y w' ρ', (Builtin.append_ ts T #[cs, cx]).run P w = .ok y w' ∧ VR ρ' v y ∧ HRs E B ρ' st' w' ∧ Evs ρ st w ρ' st' w' ∧ SameT st st' := by
  unfold appendX at ha
  cases et : E.ti t with
  | none => simp [et] at ha
  | some ti =>
    obtain ⟨d, hd, hu, hag⟩ := (hE.ti t ti et).underlying
    obtain ⟨u, size, isAgg, zero, bts⟩ := ti
    cases u <;> simp [et] at ha
    rename_i e
    cases hu
    cases ee : E.ti e with
    | none => simp [ee] at ha
    | some ei =>
      simp only [ee] at ha
      cases c1 : noMake E t2 <;> cases c2 : Nat.blt 0 ei.size <;> cases c3 : Nat.blt 0 ei.bytes <;> cases c4 : Nat.blt ei.bytes 1000000 <;> simp [c1, c2, c3, c4] at ha
      have hzpos : 0 < ei.size := by simp [Nat.blt] at c2; omega
      cases ef : firstX E st ei.size x with
      | none => simp [ef] at ha
      | some p =>
        obtain ⟨n, vs⟩ := p
        simp [ef] at ha
        have hEl := hE.ti e ei ee
        obtain ⟨f, hf, hfb, _⟩ := hEl.typeInfo
        obtain ⟨zv, hz, hzv, _, hzl⟩ := hEl.zero
        obtain ⟨d2, hd2, hnm⟩ : ∃ d2, (∀ w, (Go.underlying t2).run P w = .ok d2 w) ∧ (d2 = .string ∨ ∃ q, d2 = .slice q) := by
          unfold noMake at c1
          cases e2 : E.ti t2 with
          | none => simp [e2] at c1
          | some t2i =>
            obtain ⟨d2, hd2, hu2, _⟩ := (hE.ti t2 t2i e2).underlying
            obtain ⟨u2, _, _, _, _⟩ := t2i
            cases u2 <;> simp [e2] at c1
            · cases hu2; exact ⟨_, hd2, .inl rfl⟩
            · cases hu2; exact ⟨_, hd2, .inr ⟨_, rfl⟩⟩
        obtain ⟨xs', hln, hvx, hxl⟩ := first_ok (P := P) ef hx h
        obtain ⟨hl, hn⟩ := hln w rfl
        obtain ⟨_, hn'⟩ := hln w.drew rfl
        have hzs : zv.cells.size = ei.size := by have := (hzv ρ).length; simp at this; omega
        have hA : AppIn P w ts t e t2 ei.size n ei d2 f zv cx xs' := ⟨ht0, ht1, hd, hd2, hnm, fun w => hEl.sizeOf w, hf, by rw [hfb]; simp [Nat.blt] at c3 c4; omega, hz, hzs, hzpos, hl, hn, hn', hxl⟩
        unfold appendTo at ha
        cases s <;> simp only at ha <;> first | (cases ha; done) | skip
        ·
          cases hs
          obtain ⟨A1, A2⟩ := run_append (P := P) (w := w) (T := T) (base := none) (sLen := 0) (sCap := 0) (ys := []) (xs := xs') (n := n) (cx := cx) hA.t0 hA.t1 hA.rd hA.rd2 hA.nm hA.rs hA.rf hA.rl hA.rn
          cases n with
          | zero =>
            simp at ha
            obtain ⟨rfl, rfl⟩ := ha
            have hx0 : xs' = [] := by simpa using hxl
            refine ⟨_, w, ρ, A1 (Nat.le_refl _) (fun _ => hx0) w (fun a e => by cases e) (fun _ => rfl), .nils, h, Ev.refl _ _ _ _, .refl _⟩
          | succ n =>
            simp only at ha
            cases c5 : Nat.blt (n + 1) 1000000 with
            | false => simp [c5] at ha
            | true =>
              simp [c5] at ha
              have hsm : n + 1 < 1000000 := by simp [Nat.blt] at c5; omega
              obtain ⟨y, w', hrun, hN⟩ := A2 (by omega) (by omega) hA.fb.1 hA.fb.2 zv hA.rz hA.zs (by simp) hA.xl (by simp [Builtin.firstCells]) hA.rn'
              simp at hN hrun
              obtain ⟨ρ', a1, a2, a3, a4⟩ := newRow_ok h hzpos hvx hN ha
              exact ⟨y, w', ρ', hrun, a1, a2, a3, a4⟩
        ·
          rename_i g m off len cap
          cases hs with
          | sl _ _ _ _ _ L hL =>
            obtain ⟨A1, A2⟩ := run_append (P := P) (w := w) (T := T) (base := some ⟨L.b, L.s + off, none⟩) (sLen := len) (sCap := cap) (ys := []) (xs := xs') (n := n) (cx := cx) hA.t0 hA.t1 hA.rd hA.rd2 hA.nm hA.rs hA.rf hA.rl hA.rn
            cases c5 : Nat.ble (len + n) cap with
            | true =>
              have hle : len + n ≤ cap := Nat.le_of_ble_eq_true c5
              simp only [c5] at ha
              cases ew : st.wr E g m (off + len * ei.size) vs with
              | none => simp [ew] at ha
              | some s2 =>
                simp [ew] at ha
                obtain ⟨rfl, rfl⟩ := ha
                obtain ⟨L', w', hL', hr, h1, h2, h3⟩ := wr_ok (P := P) h ew hvx
                rw [hL] at hL'; cases hL'
                refine ⟨_, w', ρ, A1 hle (fun e => by cases e) w' (fun a ea => by cases ea; rw [add_none, Nat.add_assoc]; exact hr) (fun e => by cases e), .sl _ _ _ _ _ L hL, h1, h2, h3⟩
            | false =>
              have hnle : ¬ len + n ≤ cap := fun hle => by rw [Nat.ble_eq_true_of_le hle] at c5; cases c5
              simp only [c5] at ha
              cases c6 : Nat.blt (len + n) 1000000 with
              | false => simp [c6] at ha
              | true =>
                cases er : st.rd E g m off (len * ei.size) with
                | none => simp [c6, er] at ha
                | some old =>
                  simp only [c6, er] at ha
                  have hsm : len + n < 1000000 := by simp [Nat.blt] at c6; omega
                  obtain ⟨L', c, ty, fz, ys, hL', hb, hvl, hlen, hc⟩ := rd_ok h er
                  rw [hL] at hL'; cases hL'
                  obtain ⟨_, A2'⟩ := run_append (P := P) (w := w) (T := T) (base := some ⟨L.b, L.s + off, none⟩) (sLen := len) (sCap := cap) (ys := ys) (xs := xs') (n := n) (cx := cx) hA.t0 hA.t1 hA.rd hA.rd2 hA.nm hA.rs hA.rf hA.rl hA.rn
                  have hbd : w.drew.heap[L.b]? = some (.cells c ty fz) := hb
                  obtain ⟨y, w', hrun, hN⟩ := A2' hnle hsm hA.fb.1 hA.fb.2 zv hA.rz hA.zs hlen hA.xl (run_first_cells hbd hlen hc) hA.rn'
                  rw [appL_eq] at ha
                  obtain ⟨ρ', a1, a2, a3, a4⟩ := newRow_ok h hzpos (hvl.append hvx) hN ha
                  exact ⟨y, w', ρ', hrun, a1, a2, a3, a4⟩
        ·
          rename_i g m off len z
          cases c5 : Nat.beq z ei.size <;> cases c6 : Nat.blt (len + n) 1000000 <;> cases c7 : allPlain vs <;> simp [c5, c6, c7] at ha
          have hze := Nat.eq_of_beq_eq_true c5
          subst hze
          have hsm : len + n < 1000000 := by simp [Nat.blt] at c6; omega
          cases n with
          | zero =>
            simp at ha
            obtain ⟨rfl, rfl⟩ := ha
            have hx0 : xs' = [] := by simpa using hxl
            cases hs with
            | su _ _ _ _ _ L hL hz' hc' =>
              obtain ⟨A1, A2⟩ := run_append (P := P) (w := w) (T := T) (base := some ⟨L.b, L.s + off, none⟩) (sLen := len) (sCap := (L.t - L.s - off) / ei.size) (ys := []) (xs := xs') (n := 0) (cx := cx) hA.t0 hA.t1 hA.rd hA.rd2 hA.nm hA.rs hA.rf hA.rl hA.rn
              have hcap : len + 0 ≤ (L.t - L.s - off) / ei.size := by
                rw [Nat.le_div_iff_mul_le hz']; simp; omega
              refine ⟨_, w, ρ, A1 hcap (fun e => by cases e) w (fun a ea => by subst hx0; simp [storeCells]) (fun e => by cases e), .su _ _ _ _ _ L hL hz' hc', h, Ev.refl _ _ _ _, .refl _⟩
          | succ n =>
            simp at ha
            exact growX_ok hA h hvx hs c7 (by omega) hsm ha
        ·
          rename_i g m off len z
          cases c5 : Nat.beq z ei.size <;> cases c6 : Nat.blt n 1000000 <;> cases c7 : allPlain vs <;> simp [c5, c6, c7] at ha
          have hze := Nat.eq_of_beq_eq_true c5
          subst hze
          have hsm : n < 1000000 := by simp [Nat.blt] at c6; omega
          cases n with
          | zero =>
            simp at ha
            obtain ⟨rfl, rfl⟩ := ha
            have hx0 : xs' = [] := by simpa using hxl
            have hs2 := hs
            cases hs with
            | sr _ _ _ _ _ L hL hz' hn0 hc' =>
              obtain ⟨A1, A2⟩ := run_append (P := P) (w := w) (T := T) (base := some ⟨L.b, if (L.t - L.s - off) / ei.size = len then L.s + off else L.s + off + len * ei.size, none⟩) (sLen := 0) (sCap := (L.t - L.s - off) / ei.size - len) (ys := []) (xs := xs') (n := 0) (cx := cx) hA.t0 hA.t1 hA.rd hA.rd2 hA.nm hA.rs hA.rf hA.rl hA.rn
              refine ⟨_, w, ρ, A1 (Nat.zero_le _) (fun e => by cases e) w (fun a ea => by subst hx0; simp [storeCells]) (fun e => by cases e), hs2, h, Ev.refl _ _ _ _, .refl _⟩
          | succ n =>
            simp only at ha
            cases er : restT st g m off len ei.size with
            | none => simp [er] at ha
            | some p =>
              obtain ⟨nm, s2⟩ := p
              simp [er] at ha
              obtain ⟨ρ1, r1, r2, r3, r4⟩ := restT_ok h hs er
              obtain ⟨y, w', ρ', q1, q2, q3, q4, q5⟩ := growX_ok hA r2 (hvx.mono r3.le) r1 c7 (by omega) (by omega) ha
              exact ⟨y, w', ρ', q1, q2, q3, r3.trans q4, r4.trans q5⟩

end
end Go.Proofs.YtcedalofcekdkaaGreatDoor.Ex
end

section
namespace Go.Proofs.YtcedalofcekdkaaGreatDoor.Ex
section
variable {P : Program} {E : Env} {B : Nat} {ops : Array Oper} {b : Frame} {k : List Item} {cs : List Frame} {i : Nat} {rest : List Nat} {o : Oper}
variable {ρ : Ren} {st st' : St} {a : Act} {w : World} {v : AV}

theorem run_variablesAt {a : Addr} {u n : Nat} {c : Array Value} {ty : Nat} {fz : Nat × Nat} (hb : w.heap[a.block]? = some (.cells c ty fz)) : (variablesAt a u n).run P w = .ok (liesAt P P.depth ty (c.size / P.cellsOf ty) a.off u n) w := by
  simp [variablesAt, World.shape?, hb]

theorem convX_ok (hE : EnvOK P E B) (hLib : LibOK P E) {s d : Nat} {x : AV} {cx : Value} (h : HRs E B ρ st w) (hx : VR ρ x cx) (hc : convX E st s d x = some v) :
    ∃ y, (convert s d cx).run P w = .ok y w ∧ VR ρ v y := by
  unfold convX at hc
  cases es : E.ti s with
  | none => simp [es] at hc
  | some si =>
    cases ed : E.ti d with
    | none => simp [es, ed] at hc
    | some di =>
      obtain ⟨ds, hds, hus, _⟩ := (hE.ti s si es).underlying
      obtain ⟨dd, hdd, hud, _⟩ := (hE.ti d di ed).underlying
      obtain ⟨us, sz1, ag1, z1, b1⟩ := si
      obtain ⟨ud, sz2, ag2, z2, b2⟩ := di
      simp only [es, ed] at hc
      split at hc
      ·
        rename_i heq1 heq2
        simp only [Option.some.injEq, TI.mk.injEq] at heq1 heq2
        obtain ⟨rfl, _⟩ := heq1
        obtain ⟨rfl, _⟩ := heq2
        cases hus; cases hud; cases hx
        simp at hc; subst hc
        exact ⟨_, by simp [convert, hds, hdd, Conv.intToInt], .int _ _⟩
      · rename_i heq1 heq2
        simp only [Option.some.injEq, TI.mk.injEq] at heq1 heq2
        obtain ⟨rfl, _⟩ := heq1
        obtain ⟨rfl, _⟩ := heq2
        cases hus; cases hud; cases hx
        simp at hc; subst hc
        exact ⟨_, by simp [convert, hds, hdd], .str _⟩
      · rename_i heq1 heq2
        simp only [Option.some.injEq, TI.mk.injEq] at heq1 heq2
        obtain ⟨rfl, _⟩ := heq1
        obtain ⟨rfl, _⟩ := heq2
        cases hus; cases hud; cases hx
        simp at hc; subst hc
        exact ⟨_, by simp [convert, hds, hdd, Conv.unsafePointer], .nilp⟩
      · rename_i e _ _ _ _ _ _ _ _ g m off heq1 heq2
        simp only [Option.some.injEq, TI.mk.injEq] at heq1 heq2
        obtain ⟨rfl, _⟩ := heq1
        obtain ⟨rfl, _⟩ := heq2
        cases hus; cases hud
        cases ee : E.ti e with
        | none => simp [ee] at hc
        | some ei =>
          cases ec : st.cellsAt E g m with
          | none => simp [ee, ec] at hc
          | some l =>
            simp only [ee, ec] at hc
            cases c1 : Nat.beq ei.size 0 <;> cases c2 : Nat.blt off (lenL l) <;> simp [c1, c2] at hc
            subst hc
            have hne : ei.size ≠ 0 := fun e => by rw [e] at c1; simp at c1
            have hlt : off < l.length := by simp [Nat.blt, lenL_eq] at c2; omega
            obtain ⟨L, c, ty, fz, hL, hb, hval⟩ := cellsAt_ok h ec
            cases hx with
            | ptr _ _ _ L' hL' =>
              rw [hL] at hL'; cases hL'
              obtain ⟨y, hy, _⟩ := hval off l[off] (by simp [hlt])
              have hsz : L.s + off < c.size := by
                rcases Nat.lt_or_ge (L.s + off) c.size with q | q
                · exact q
                · rw [Array.getElem?_eq_none q] at hy; cases hy
              refine ⟨_, ?_, .ptr _ _ _ L hL⟩
              have hnl : ¬ c.size ≤ L.s + off := by omega
              simp [convert, hds, hdd, Conv.unsafePointer, Conv.seenAt, viewAt, World.shape?, hb, cellsIn, (hE.ti e ei ee).sizeOf, hne, hnl]
      · rename_i heq1 heq2
        simp only [Option.some.injEq, TI.mk.injEq] at heq1 heq2
        obtain ⟨rfl, _⟩ := heq1
        obtain ⟨rfl, _⟩ := heq2
        cases hus; cases hud; cases hx
        simp at hc; subst hc
        exact ⟨_, by simp [convert, hds, hdd, Conv.unsafePointer], .nilp⟩
      · rename_i e _ _ _ _ g m off heq1 heq2
        simp only [Option.some.injEq, TI.mk.injEq] at heq1 heq2
        obtain ⟨rfl, _⟩ := heq1
        obtain ⟨rfl, _⟩ := heq2
        cases hus; cases hud
        split at hc
        · rename_i ty hw m' rel cs' hg
          rw [getG_eq] at hg
          cases c1 : Nat.beq m m' <;> cases c2 : Nat.ble NG g <;> simp only [c1, c2] at hc <;> first | (cases hc; done) | skip
          cases off with
          | succ off => simp at hc
          | zero =>
            cases ee : E.ti e with
            | none => simp [ee] at hc
            | some ei =>
              simp only [ee] at hc
              cases c3 : E.seesAs ty e <;> cases c4 : Nat.beq ei.size (lenL cs') <;> simp [c3, c4] at hc
              subst hc
              have hm := Nat.eq_of_beq_eq_true c1
              subst hm
              have hsz : ei.size = cs'.length := by rw [← lenL_eq]; exact Nat.eq_of_beq_eq_true c4
              obtain ⟨_, L, c, fz, hL, hmr⟩ := (h.obj g _ hg).2.2.1 { m := m, fx := true, rel := rel, cs := cs' } (by simp)
              cases hx with
              | ptr _ _ _ L' hL' =>
                simp only at hL
                rw [hL] at hL'; cases hL'
                obtain ⟨f1, f2, f3⟩ := hmr.fx rfl
                simp only at f2 f3
                have hla := hLib.sees ty e ei c3 ee
                refine ⟨_, ?_, .ptr _ _ _ L hL⟩
                have hb := hmr.blk
                have hv1 := run_variablesAt (P := P) (a := ⟨L.b, 0, none⟩) (u := e) (n := 1) hb
                simp only [f3, ← hsz, hla] at hv1
                simp [convert, hds, hdd, Conv.unsafePointer, Conv.seenAt, viewAt, World.shape?, hb, (hE.ti e ei ee).sizeOf, f1, hv1]
        · cases hc
      · cases hc

theorem bytesX_ok (hE : EnvOK P E B) {s d : Nat} {x : AV} {cx : Value} (h : HRs E B ρ st w) (hx : VR ρ x cx) (hc : bytesX E st s d x = some (v, st')) :
    ∃ y w' ρ', (convert s d cx).run P w = .ok y w' ∧ VR ρ' v y ∧ HRs E B ρ' st' w' ∧ Evs ρ st w ρ' st' w' ∧ SameT st st' := by
  unfold bytesX at hc
  cases es : E.ti s with
  | none => simp [es] at hc
  | some si =>
    cases ed : E.ti d with
    | none => simp [es, ed] at hc
    | some di =>
      obtain ⟨ds, hds, hus, _⟩ := (hE.ti s si es).underlying
      obtain ⟨dd, hdd, hud, _⟩ := (hE.ti d di ed).underlying
      obtain ⟨us, sz1, ag1, z1, b1⟩ := si
      obtain ⟨ud, sz2, ag2, z2, b2⟩ := di
      simp only [es, ed] at hc
      split at hc
      · rename_i e _ _ _ _ l heq1 heq2
        simp only [Option.some.injEq, TI.mk.injEq] at heq1 heq2
        obtain ⟨rfl, _⟩ := heq1
        obtain ⟨rfl, _⟩ := heq2
        cases hus; cases hud; cases hx
        split at hc
        · rename_i ee
          obtain ⟨de, hde, hue, _⟩ := (hE.ti e _ ee).underlying
          cases hue
          cases en : st.newG (.cells e (lenL l) [{ m := 0, fx := false, rel := 0, cs := byteCells l }]) with
          | none => simp [en] at hc
          | some p =>
            obtain ⟨g, s2⟩ := p
            simp [en] at hc
            obtain ⟨rfl, rfl⟩ := hc
            have hforced : (Question.appendCap (bytes l).size 0 e).forced = false := rfl
            generalize hcp : (Question.appendCap (bytes l).size 0 e).cut (w.tape w.drawn (Question.appendCap (bytes l).size 0 e)) = cap
            have hcap : l.length ≤ cap := by rw [← hcp]; simp [Question.cut]
            have hbl := byteCells_ok ρ l
            have hlen : ((bytes l).data.toList.map fun b => Value.int .u8 b.toNat).length = l.length := by simp [bytes]
            let c : Array Value := ((bytes l).data.map fun b => Value.int .u8 b.toNat) ++ Array.replicate (cap - (bytes l).size) (.int .u8 0)
            have hcs : c.size = cap := by simp [c]; omega
            have hw : HRs E B ρ st { w with drawn := w.drawn + 1 } := HR.drawn h _
            obtain ⟨ρ', a1, a2, a3, a4, a5⟩ := newGrown_ok (c := c) (fz := (c.size, c.size + 1)) hw en (by rw [lenL_eq, byteCells_length]; exact Nat.le_refl _) hbl
              (fun j hj => by
                simp only [c]
                rw [Array.getElem?_append_left (by simpa using hj)]
                simp [← Array.toList_map]) (by rw [hlen, hcs]; exact hcap) (fun o ho => by rintro ⟨h1, _⟩; simp only at h1; omega)
            refine ⟨.slice (some ⟨w.heap.size, 0, none⟩) l.length cap, _, ρ', ?_, ?_, a1, (Ev.drawn ρ st.hp st.nx w _).trans a2, a3⟩
            · have hpush : ({ w with drawn := w.drawn + 1, heap := w.heap.push (Obj.cells c e (0, 0)) } : World).freeze ⟨w.heap.size, c.size, none⟩ 1 = { w with heap := w.heap.push (.cells c e (c.size, c.size + 1)), drawn := w.drawn + 1 } := by
                simp only [World.freeze]
                rw [if_neg (by omega)]
                congr 1
                apply Array.ext_getElem?
                intro j
                simp only [Array.getElem?_modify, Array.getElem?_push]
                by_cases hj : j = w.heap.size
                · subst hj; simp
                · rw [if_neg (fun e => hj e.symm), if_neg hj]
                  simp [hj]
              have hrun : (Conv.stringToBytes e (bytes l)).run P w = .ok (.slice (some ⟨w.heap.size, 0, none⟩) l.length cap) (({ w with drawn := w.drawn + 1, heap := w.heap.push (Obj.cells c e (0, 0)) } : World).freeze ⟨w.heap.size, c.size, none⟩ 1) := by
                unfold Conv.stringToBytes
                rw [Sem.run_bind, run_choose, hforced]
                simp only [Bool.false_eq_true, if_false, hcp, Result.andThen_ok]
                simp only [newRow, Sem.run_bind, run_newObj, Result.andThen_ok, markStringish, run_shape, Sem.run_pure]
                simp only [World.shape?, Array.getElem?_push, if_true]
                simp [c]
              rw [hpush] at hrun
              simp only [convert, Sem.run_bind, hds, hdd, hde, Result.andThen_ok]
              exact hrun
            · have := VR.su (ρ := ρ') g 0 0 l.length 1 ⟨w.heap.size, 0, c.size⟩ a4 (by omega) (by simp [hcs]; exact hcap)
              rw [lenL_eq]
              simpa [hcs] using this
        · cases hc
      · cases hc

end
end Go.Proofs.YtcedalofcekdkaaGreatDoor.Ex
end
