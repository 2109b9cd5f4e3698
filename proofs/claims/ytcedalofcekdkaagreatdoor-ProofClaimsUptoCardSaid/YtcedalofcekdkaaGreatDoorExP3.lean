/- The executor is sound, part 4: what it answers is what the machine does. -/
import Derived.Test.YtcedalofcekdkaaGreatDoorExP2
import Derived.RangeFuncLeaves
import Derived.Test.YtcedalofcekdkaaGreatDoorExP0
import Derived.Lib.MakeNoZero
import Derived.Orders
set_option linter.unusedSimpArgs false
set_option linter.unusedVariables false
section
namespace Go.Proofs.YtcedalofcekdkaaGreatDoor.Ex
section
variable {P : Program} {E : Env} {B : Nat} {cs : List Frame} {ρ : Ren} {st st' : St} {a : Act} {w : World} {self : Self}

theorem argsIn_get : ∀ (l : List AV) (i : Nat) (tm : Tr AV) (t : Nat) (v : AV), (argsIn i tm l).get t = some v → (i ≤ t ∧ l[t - i]? = some v) ∨ tm.get t = some v
  | [], i, tm, t, v, h => .inr h
  | x :: l, i, tm, t, v, h => by
    have hp : argsIn i tm (x :: l) = argsIn (i + 1) (Tr.put (some x) (pathOf i) tm) l := by
      simp only [argsIn]
      cases Tr.put (some x) (pathOf i) tm <;> rfl
    rw [hp] at h
    rcases argsIn_get l (i + 1) _ t v h with ⟨h1, h2⟩ | h1
    · refine .inl ⟨by omega, ?_⟩
      rw [show t - i = (t - (i + 1)) + 1 by omega]
      simpa using h2
    · rw [Tr.get_put] at h1
      by_cases c : t = i
      · subst c; simp at h1; subst h1; exact .inl ⟨Nat.le_refl _, by simp⟩
      · simp only [c, if_false] at h1; exact .inr h1

theorem enterSt_eq (st : St) (n : Nat) (tm : Tr AV) : (enterSt st n tm).ntm = n ∧ (enterSt st n tm).tm = tm ∧ (enterSt st n tm).hp = st.hp ∧ (enterSt st n tm).nx = st.nx ∧ (enterSt st n tm).df = [] := by
  cases st; exact ⟨rfl, rfl, rfl, rfl, rfl⟩

theorem oldLg_mem (lo : Nat) (l : List Nat) : ∀ (m : List Nat) (g : Nat), (g ∈ l → g ∈ backSt.oldLg' lo l m) ∧ (g ∈ m → g < lo → g ∈ backSt.oldLg' lo l m)
  | [], g => ⟨fun h => h, fun h => by cases h⟩
  | x :: m, g => by
    obtain ⟨h1, h2⟩ := oldLg_mem lo l m g
    simp only [backSt.oldLg']
    cases hb : Nat.blt x lo with
    | true => exact ⟨fun h => List.mem_cons_of_mem _ (h1 h), fun h hl => by
        rcases List.mem_cons.1 h with rfl | h
        · exact List.mem_cons_self
        · exact List.mem_cons_of_mem _ (h2 h hl)⟩
    | false => exact ⟨h1, fun h hl => by
        rcases List.mem_cons.1 h with rfl | h
        · have : Nat.blt g lo = true := by simp [Nat.blt]; omega
          rw [hb] at this; cases this
        · exact h2 h hl⟩

theorem backSt_eq (st s : St) {n : Nat} {tm : Tr AV} (hl : Logs (enterSt st n tm) s) : SameT st (backSt st s) ∧ (backSt st s).hp = s.hp ∧ (backSt st s).nx = s.nx := by
  obtain ⟨h1, h2, h3⟩ := hl
  cases st; cases s
  refine ⟨⟨rfl, rfl, rfl, ⟨h1, fun g hg => (oldLg_mem _ _ _ g).1 hg, fun g hg hn => h3 g hg fun hh => hn ((oldLg_mem _ _ _ g).2 hh hg)⟩⟩, rfl, rfl⟩

theorem undefer_ok {fr : Frame} (hm : fr.mode ≠ .run) : ∀ (df bs : List Nat) (st s : St) (w : World), undefer st df = some s → HRs E B ρ st w → bs.length = df.length →
    (∀ (i : Nat) g b, df[i]? = some g → bs[i]? = some b → ∃ L, ρ.loc g 0 = some L ∧ L.b = b) →
    ∃ w', Steps P (lone { fr with defers := bs.map (fun b => { target := .collected b, args := #[] }) } cs w) (lone { fr with defers := [] } cs w') ∧ HRs E B ρ s w' ∧ Evs ρ st w ρ s w' ∧ s.tm = st.tm ∧ Logs st s
  | [], bs, st, s, w, h, hh, hl, _ => by
    have : bs = [] := List.eq_nil_of_length_eq_zero hl
    subst this
    simp [undefer] at h; subst h
    exact ⟨w, .refl _ _, hh, Ev.refl _ _ _ _, rfl, .refl _⟩
  | g :: df, [], st, s, w, h, hh, hl, _ => by simp at hl
  | g :: df, bk :: bs, st, s, w, h, hh, hl, hloc => by
    unfold undefer at h
    split at h
    · rename_i eg
      rw [getG_eq] at eg
      split at h
      · cases h
      · rename_i s1 hd
        obtain ⟨L, hL, hb⟩ := (hh.obj g _ eg).2.2
        obtain ⟨L', hL', rfl⟩ := hloc 0 g bk rfl rfl
        rw [hL] at hL'; cases hL'
        obtain ⟨k1, k2, k3⟩ := delG_eq hd
        obtain ⟨j1, j2⟩ := HR.lose (w' := { w with heap := w.heap.setIfInBounds L.b (.deferred none) }) hh eg rfl rfl rfl (by simp) (fun r hr hn => by
          simp only [Array.getElem?_setIfInBounds]
          rw [if_neg]
          intro e
          exact hn ⟨_, 0, L, eg, by simp [memsOf], hL, e⟩)
        have h1 : HRs E B ρ s1 { w with heap := w.heap.setIfInBounds L.b (.deferred none) } := by unfold HRs; rw [k2, k3]; exact j1
        have h2 : Evs ρ st w ρ s1 { w with heap := w.heap.setIfInBounds L.b (.deferred none) } := by unfold Evs; rw [k2, k3]; exact j2
        obtain ⟨w', g1, g2, g3, g4, g5⟩ := undefer_ok hm df bs s1 s _ h h1 (by simpa using hl) fun i g' b' e1 e2 => hloc (i + 1) g' b' (by simpa using e1) (by simpa using e2)
        have htake : (Instr.takeDeferred L.b).run P w = .ok [] { w with heap := w.heap.setIfInBounds L.b (.deferred none) } := by
          simp [Instr.takeDeferred, run_getMap hb, run_setMap hb]
        refine ⟨w', .head ?_ g1, g2, h2.trans g3, g4.trans k1.tm, k1.log.trans g5⟩
        exact step_collected (fr := { fr with defers := (L.b :: bs).map (fun b => { target := .collected b, args := #[] }) }) hm rfl rfl htake
    · cases h

def resOne (tmps : Array Value) : ResultVar → Sem Value
  | .tmp t => pure (tmps.getD t undef)
  | .cell a t => do loadVar t (← asAddr (tmps.getD a undef))

theorem results_eq (fn : Func) (tmps : Array Value) : results fn tmps = (do
    let vs ← fn.results.mapM (resOne tmps)
    pure (if h : vs.size = 1 then vs[0] else .tuple vs)) := by
  unfold results
  have : (fun r => match r with
    | .tmp t => pure (tmps.getD t undef)
    | .cell a t => do loadVar t (← asAddr (tmps.getD a undef)) : ResultVar → Sem Value) = resOne tmps := by
    funext r; cases r <;> rfl
  rw [← this]
  rfl

theorem resVal_ok (hE : EnvOK P E B) {tmps : Array Value} (htr : ∀ t v, evT t st = some v → VR ρ v (tmps.getD t undef)) (hh : HRs E B ρ st w) : ∀ (l : List ResultVar) (vs : List AV), resVal E st l = some vs →
    ∃ xs : List Value, (l.mapM (resOne tmps)).run P w = .ok xs w ∧ VRL ρ vs xs
  | [], vs, h => by simp [resVal] at h; subst h; exact ⟨[], by simp, .nil⟩
  | .tmp t :: l, vs, h => by
    simp only [resVal] at h
    cases e : evT t st with
    | none => simp [e] at h
    | some v =>
      simp only [e] at h
      cases e2 : resVal E st l with
      | none => simp [e2] at h
      | some q =>
        simp [e2] at h; subst h
        obtain ⟨xs, h1, h2⟩ := resVal_ok hE htr hh l q e2
        exact ⟨_ :: xs, by simp [List.mapM_cons, resOne, h1], .cons _ _ _ _ (htr t v e) h2⟩
  | .cell a t :: l, vs, h => by
    simp only [resVal] at h
    split at h
    · rename_i g m off ti e1 e2
      split at h
      · cases h
      · rename_i c er
        split at h
        · cases h
        · rename_i v em
          cases e3 : resVal E st l with
          | none => simp [e3] at h
          | some q =>
            simp [e3] at h; subst h
            obtain ⟨xs, h1, h2⟩ := resVal_ok hE htr hh l q e3
            obtain ⟨L, c', ty, fz, ys, hL, hb, hvl, hlen, hc⟩ := rd_ok hh er
            have hT := hE.ti t ti e2
            obtain ⟨hm1, hm2⟩ := mk_ok em hvl
            have hp := htr a _ e1
            refine ⟨(if ti.isAgg then .agg ys.toArray else ys.headD undef) :: xs, ?_, .cons _ _ _ _ hm1 h2⟩
            have hone : (resOne tmps (.cell a t)).run P w = .ok (if ti.isAgg then .agg ys.toArray else ys.headD undef) w := by
              simp only [resOne, Sem.run_bind]
              generalize tmps.getD a undef = pa at hp
              cases hp with
              | ptr _ _ _ L' hL' =>
                rw [hL] at hL'; cases hL'
                cases hag : ti.isAgg with
                | true =>
                  have hrl := run_loadCells (P := P) hb (L.s + off) ys hc
                  rw [hlen] at hrl
                  simp [asAddr, loadVar, hT.isAgg_run, hag, hT.sizeOf, hrl]
                | false =>
                  have h1 := hm2 hag
                  match ys, h1, hc with
                  | [y], _, hc =>
                    have hcell : w.cell? ⟨L.b, L.s + off, none⟩ = some y := by
                      rw [cell_at hb]; simpa using hc 0 (by simp)
                    simp [asAddr, loadVar, hT.isAgg_run, hag, hcell]
            simp [List.mapM_cons, hone, h1]
    · cases h

def Leaves (P : Program) (f : Nat) (args : Array Value) (w : World) (cs : List Frame) (x : Value) (w' : World) : Prop :=
  ∃ fr, Steps P (lone (Frame.enter P f args .normal) cs w) (lone fr cs w') ∧ fr.fn = f ∧ fr.leaving P w' (.returned x)

def CallPost (P : Program) (E : Env) (B : Nat) (f : Nat) (args : Array Value) (cs : List Frame) (ρ : Ren) (st : St) (w : World) : AV → St → Prop :=
  fun v s => ∃ ρ' w' x, Leaves P f args w cs x w' ∧ VR ρ' v x ∧ HRs E B ρ' s w' ∧ Evs ρ st w ρ' s w' ∧ SameT st s

theorem body_ok (hE : EnvOK P E B) (hS : SelfOK P E B self) {f : Nat} {F : AF} (hF : E.fn f = some F) {args : List AV} {xs : List Value} (hh : HRs E B ρ st w) (hx : VRL ρ args xs) (hn : args.length ≤ F.ntm) :
    ((self F.body none (enterSt st F.ntm (argsIn 0 .lf args))).bind fun e s =>
      match e.leaves with
      | false => .no "exit"
      | true => match undefer s s.df with
        | none => .no "deferred"
        | some s => match resVal E s F.res with
          | none => .no "results"
          | some vs => .one (one1 vs) (backSt st s)).Holds (CallPost P E B f xs.toArray cs ρ st w) := by
  obtain ⟨g, hg, hbody, hntm, hres, hname⟩ := hE.fn f F hF
  obtain ⟨e1, e2, e3, e4, e5⟩ := enterSt_eq st F.ntm (argsIn 0 .lf args)
  have hlen := hx.length
  generalize hfr : Frame.enter P f xs.toArray .normal = b0
  have hb0 : b0 = b0.atR { tmps := xs.toArray ++ Array.replicate (F.ntm - xs.length) undef, defers := [] } [.code F.body] := by
    rw [← hfr]; simp [Frame.enter, Frame.atR, hg, hbody, hntm]
  have hround : b0.roundOf = none := by rw [← hfr]; rfl
  have hkind : b0.kind = .normal := by rw [← hfr]; rfl
  have hfn : b0.fn = f := by rw [← hfr]; rfl
  have hinv : Inv E B ρ (enterSt st F.ntm (argsIn 0 .lf args)) { tmps := xs.toArray ++ Array.replicate (F.ntm - xs.length) undef, defers := [] } w := by
    refine ⟨⟨by rw [e1]; simp; omega, fun t v h => ?_⟩, ⟨[], rfl, by rw [e5], fun i g b h => by rw [e5] at h; simp at h⟩, by rw [e3, e4]; exact hh⟩
    rw [e2] at h
    rcases argsIn_get args 0 .lf t v h with ⟨_, h1⟩ | h1
    · obtain ⟨y, hy, hv⟩ := hx.get h1
      refine ⟨y, ?_, hv⟩
      simp only [Nat.sub_zero] at hy
      have hlt : t < xs.length := by
        rcases Nat.lt_or_ge t xs.length with q | q
        · exact q
        · rw [List.getElem?_eq_none q] at hy; cases hy
      rw [Array.getElem?_append_left (by simpa using hlt)]
      simpa using hy
    · simp at h1
  refine (hS F.body none b0 [] cs ρ _ _ w hround hinv).bind ?_
  rintro e s ⟨ρ1, a1, w1, σ, h1, h2, h3, h4, l1⟩
  rw [← hb0, ← hfr] at h1

  have hret : e.leaves = true → ∃ todo, Steps P σ (lone { (b0.atR a1 todo) with mode := .returning } cs w1) := by
    intro hl
    cases e with
    | exit id => simp [AE.leaves] at hl
    | normal => simp only [Stands] at h2; subst h2; exact ⟨[], .one (stepR_end hround)⟩
    | ret => obtain ⟨k', rfl⟩ := h2; exact ⟨.code .ret :: k', .one (stepR_ret hround)⟩
  cases hl : e.leaves with
  | false => simp only [hl]; trivial
  | true =>
    simp only [hl]
    obtain ⟨todo, h5⟩ := hret hl
    cases hu : undefer s s.df with
    | none => trivial
    | some s2 =>
      simp only
      obtain ⟨bs, hb1, hb2, hb3⟩ := h3.df
      have hfr2 : ({ (b0.atR a1 todo) with mode := .returning } : Frame) = { ({ (b0.atR a1 todo) with mode := .returning } : Frame) with defers := bs.map (fun b => { target := .collected b, args := #[] }) } := by
        simp [Frame.atR, hb1]
      obtain ⟨w2, g1, g2, g3, g4, l2⟩ := undefer_ok (P := P) (cs := cs) (fr := { (b0.atR a1 todo) with mode := .returning }) (by simp) s.df bs s s2 w1 hu h3.hr hb2 hb3
      cases hr : resVal E s2 F.res with
      | none => trivial
      | some vs =>
        simp only
        have htr : ∀ t v, evT t s2 = some v → VR ρ1 v (a1.tmps.getD t undef) := by
          intro t v h
          obtain ⟨ntm, tm, hp, nx, lg, df⟩ := s2
          simp only at g4
          obtain ⟨x, hx', hv⟩ := h3.tr.val t v (by rw [← g4]; exact h)
          have : a1.tmps.getD t undef = x := by simp [Array.getD_eq_getD_getElem?, hx']
          rw [this]; exact hv
        obtain ⟨ys, k1, k2⟩ := resVal_ok (P := P) hE htr g2 F.res vs hr
        obtain ⟨j1, j2, j3⟩ := backSt_eq st s2 (l1.trans l2)
        have hval : ∃ x, (results g a1.tmps).run P w2 = .ok x w2 ∧ VR ρ1 (one1 vs) x := by
          rw [results_eq]
          have hm : (g.results.mapM (resOne a1.tmps)).run P w2 = .ok ys.toArray w2 := by
            rw [← hres] at k1
            rw [Array.mapM_eq_mapM_toList]
            simp [k1]
          simp only [Sem.run_bind, hm, Result.andThen_ok, Sem.run_pure]
          cases k2 with
          | nil => exact ⟨_, rfl, .tup _ _ .nil⟩
          | cons v y vs' ys' hv hvs =>
            cases hvs with
            | nil => exact ⟨_, rfl, by simpa [one1] using hv⟩
            | cons v2 y2 vs2 ys2 hv2 hvs2 =>
              refine ⟨_, rfl, ?_⟩
              rw [dif_neg (by simp)]
              exact .tup _ _ (.cons _ _ _ _ hv (.cons _ _ _ _ hv2 hvs2))
        obtain ⟨x, hxr, hxv⟩ := hval
        refine ⟨ρ1, w2, x, ⟨_, (h1.trans h5).trans (by rw [hfr2]; exact g1), ?_, ?_⟩, hxv, ?_, ?_, j1⟩
        · exact hfn
        · exact ⟨rfl, rfl, hkind, g, by rw [← hfn] at hg; exact hg, hxr⟩
        · unfold HRs; rw [j2, j3]; exact g2
        · unfold Evs; rw [j2, j3]
          have := h4.trans g3
          unfold Evs at this
          rw [e3, e4] at this
          exact this

end
end Go.Proofs.YtcedalofcekdkaaGreatDoor.Ex
end

section
namespace Go.Proofs.YtcedalofcekdkaaGreatDoor.Ex
section
variable {P : Program} {E : Env} {B : Nat} {cs : List Frame} {ρ : Ren} {st st' : St} {a : Act} {w : World} {self : Self}

def InvPost (P : Program) (E : Env) (B : Nat) (t : Target) (args : Array Value) (fr : Frame) (cs : List Frame) (ρ : Ren) (st : St) (w : World) : AV → St → Prop :=
  fun v s => ∃ ρ' w' x, VR ρ' v x ∧ HRs E B ρ' s w' ∧ Evs ρ st w ρ' s w' ∧ SameT st s ∧
    ((invoke t args).run P w = .ok (.value x) w' ∨
     (∃ f xs, (invoke t args).run P w = .ok (.enter f xs) w ∧ Steps P (lone (Frame.enter P f xs .normal) (fr :: cs) w) (lone (fr.finish x) cs w')) ∨
     (∃ l f tmps asg body, (invoke t args).run P w = .ok (.round l f tmps asg body) w ∧ Steps P (lone (Frame.round l f tmps asg body .normal) (fr :: cs) w) (lone (fr.finish x) cs w')))

def ValPost (E : Env) (B : Nat) (R : Value → World → Prop) (ρ : Ren) (st : St) (w : World) : AV → St → Prop :=
  fun v s => ∃ ρ' w' x, R x w' ∧ VR ρ' v x ∧ HRs E B ρ' s w' ∧ Evs ρ st w ρ' s w' ∧ SameT st s

structure RestOK (P : Program) (E : Env) (B : Nat) (me : Self) : Prop where
  join : ∀ (R : Value → World → Prop) (ρ : Ren) (st : St) (w : World) (o : Out AV), HRs E B ρ st w → o.Holds (ValPost E B R ρ st w) → (Go.Proofs.YtcedalofcekdkaaGreatDoor.Ex.join st o).Holds (ValPost E B R ρ st w)
  summ : ∀ (f : Nat) (args : List AV) (v : AV) (xs : List Value) (fr : Frame) (cs : List Frame) (ρ : Ren) (st : St) (w : World), E.summ f args = some v → HRs E B ρ st w → VRL ρ args xs → InvPost P E B (.fn (.func f) #[]) xs.toArray fr cs ρ st w v st
  noZero : ∀ (f ty n : Nat) (x : Value) (g : Nat) (s : St) (fr : Frame) (cs : List Frame) (ρ : Ren) (st : St) (w : World), E.noZero f = some ty → n < 1000000 → HRs E B ρ st w → VR ρ (.int .i64 n) x →
    st.newG (.cells ty 0 [{ m := 0, fx := false, rel := 0, cs := [] }]) = some (g, s) → InvPost P E B (.fn (.func f) #[]) #[x] fr cs ρ st w (.su g 0 0 n 1) s
  same : ∀ (f : Nat) (v : AV) (x : Value) (fr : Frame) (cs : List Frame) (ρ : Ren) (st : St) (w : World), E.same f = true → HRs E B ρ st w → VR ρ v x → InvPost P E B (.fn (.func f) #[]) #[x] fr cs ρ st w v st
  yield : ∀ (g : Nat) (L : Loc) (args : List AV) (xs : List Value) (fr : Frame) (cs : List Frame) (ρ : Ren) (st : St) (w : World), HRs E B ρ st w → ρ.loc g 0 = some L → VRL ρ args xs →
    (yieldX me g args st).Holds (InvPost P E B (.fn (.yield L.b) #[]) xs.toArray fr cs ρ st w)

theorem invoke_cap (f : Nat) (cap args : Array Value) : invoke (.fn (.func f) cap) args = invoke (.fn (.func f) #[]) (args ++ cap) := by
  simp [invoke]

theorem callB_ok (hA : AllOK P E B) (hS : SelfOK P E B self) (hR : RestOK P E B self) {f : Nat} {args : List AV} {xs : List Value} (cs : List Frame) (hh : HRs E B ρ st w) (hx : VRL ρ args xs) :
    (callB E self f args st).Holds (fun v s => (∀ w, (invoke (.fn (.func f) #[]) xs.toArray).run P w = .ok (.enter f xs.toArray) w) ∧ CallPost P E B f xs.toArray cs ρ st w v s) := by
  unfold callB
  cases e4 : E.fn f with
  | none => trivial
  | some F =>
    simp only
    cases e5 : Nat.ble (lenL args) F.ntm with
    | false => trivial
    | true =>
      simp only
      have hn : args.length ≤ F.ntm := by rw [← lenL_eq]; exact Nat.le_of_ble_eq_true e5
      refine (hR.join (Leaves P f xs.toArray w cs) ρ st w _ hh (body_ok (cs := cs) hA.env hS e4 hh hx hn)).mono ?_
      intro v s h
      obtain ⟨g, hg, hbody, _, _, hcall⟩ := hA.env.fn f F e4
      exact ⟨fun w => by simp [invoke, hcall], h⟩

theorem callF_ok (hA : AllOK P E B) (hS : SelfOK P E B self) (hR : RestOK P E B self) {f : Nat} {args : List AV} {xs : List Value} (fr : Frame) (hh : HRs E B ρ st w) (hx : VRL ρ args xs) :
    (callF E self f args st).Holds (InvPost P E B (.fn (.func f) #[]) xs.toArray fr cs ρ st w) := by
  unfold callF
  cases e1 : E.summ f args with
  | some v => exact hR.summ f args v xs fr cs ρ st w e1 hh hx
  | none =>
    simp only
    cases e2 : E.noZero f with
    | some ty =>
      simp only
      split
      · rename_i n
        split
        · trivial
        · rename_i hb
          split
          · rename_i g s en
            obtain ⟨cx, r, rfl, h1⟩ := hx.head1
            have hlen := hx.length
            have : r = [] := by simpa using hlen
            subst this
            exact hR.noZero f ty n cx g s fr cs ρ st w e2 (by simp [Nat.blt] at hb; omega) hh h1 en
          · trivial
      · trivial
    | none =>
      simp only
      cases e3 : E.same f with
      | true =>
        simp only
        split
        · rename_i x
          obtain ⟨cx, r, rfl, h1⟩ := hx.head1
          have hlen := hx.length
          have : r = [] := by simpa using hlen
          subst this
          exact hR.same f x cx fr cs ρ st w e3 hh h1
        · trivial
      | false =>
        simp only
        refine (callB_ok hA hS hR (fr :: cs) hh hx).mono ?_
        rintro v s ⟨h0, ρ', w', x, ⟨fr', h1, h2, h3⟩, h4, h5, h6, h7⟩
        exact ⟨ρ', w', x, h4, h5, h6, h7, .inr (.inl ⟨f, xs.toArray, h0 w, h1.trans (.one (step_leave_returned h3))⟩)⟩

theorem calls_ok (hA : AllOK P E B) (hS : SelfOK P E B self) (hR : RestOK P E B self) : CallsOK P E B self := by
  intro ops b k cs i o rest ρ st a w c f H hi ho hc
  unfold hCall
  simp only [hc]
  split
  · rename_i u args e1 e2
    have hf := ev_ok hi e1
    have hargs := evs_ok hi e2
    have hl : (c.args.map a.eval).toList = c.args.toList.map a.eval := by simp
    rw [← hl] at hargs

    have back : ∀ (t : Target) (xs : Array Value), (resolve a.eval c o.type).run P w = .ok { target := t, args := xs } w →
        ∀ v s, InvPost P E B t xs (b.atR a (.inRegion ops (i :: rest) :: k)) cs ρ st w v s → (fin s o.dst v).Holds (OpPost P E B ops b k cs i rest ρ st a w) := by
      rintro t xs hres v s ⟨ρ', w', x, h1, h2, h3, h4, h5⟩
      refine Out.Holds.mono (lay_ok (d := o.dst) (a := a) (x := x) (ρ := ρ') ?_ ?_ h2 h1) ?_
      · rw [h4.ntm, h4.tm]; exact hi.tr.mono h3.le
      · rw [h4.df]; exact Inv.mono_df h3.le hi.df
      · rintro _ s' ⟨k1, k2, k3, k4⟩
        refine ⟨ρ', a.put o.dst x, w', ?_, k1, by unfold Evs; rw [k2, k3]; exact h3, h4.log.trans k4, _, _, H.at_, rfl⟩
        have hfin := finish_op (b := b) (a := a) (k := k) (rest := rest) H.at_ x
        rcases h5 with h5 | ⟨f', ys, h5, h6⟩ | ⟨l, f', tmps, asg, body, h5, h6⟩
        · exact .one (stepR_value H.at_ H.wanted H.noDefer (by simp [execOp, ho, hres, h5]))
        · rw [← hfin]
          exact .head (stepR_enter H.at_ H.wanted H.noDefer (by simp [execOp, ho, hres, h5])) h6
        · rw [← hfin]
          exact .head (stepR_round H.at_ H.wanted H.noDefer (by simp [execOp, ho, hres, h5])) h6
    unfold callV
    split
    · rename_i f' first cap
      generalize hfv : a.eval f = fv at hf
      cases hf with
      | func _ _ _ x y hny ha hb =>
        rw [appL_eq, appL_eq]
        refine (callF_ok (cs := cs) hA hS hR (b.atR a (.inRegion ops (i :: rest) :: k)) hi.hr (ha.append (hargs.append hb))).bind fun v s hv => ?_
        refine back (.fn (.func f') y.toArray) (x.toArray ++ c.args.map a.eval) ?_ v s ?_
        · simp [resolve, hc, hfv, Deferred.ofValue]
        · have he : (x ++ ((c.args.map a.eval).toList ++ y)).toArray = (x.toArray ++ c.args.map a.eval) ++ y.toArray := by
            apply Array.ext'; simp
          unfold InvPost at hv ⊢
          rw [he] at hv
          simp only [invoke_cap f' y.toArray]
          exact hv
    · rename_i l first cap
      generalize hfv : a.eval f = fv at hf
      cases hf with
      | func _ _ _ x y hny ha hb => exact absurd rfl (hny l)
      | yield _ _ _ x y L hL ha hb =>
        rw [appL_eq]
        refine (hR.yield l L _ _ (b.atR a (.inRegion ops (i :: rest) :: k)) cs ρ st w hi.hr hL (ha.append hargs)).bind fun v s hv => ?_
        refine back (.fn (.yield L.b) y.toArray) (x.toArray ++ c.args.map a.eval) ?_ v s ?_
        · simp [resolve, hc, hfv, Deferred.ofValue]
        · have he : (x ++ (c.args.map a.eval).toList).toArray = x.toArray ++ c.args.map a.eval := by
            apply Array.ext'; simp
          unfold InvPost at hv ⊢
          rw [he] at hv
          exact hv
    · trivial
  · trivial

end
end Go.Proofs.YtcedalofcekdkaaGreatDoor.Ex
end

section
namespace Go.Proofs.YtcedalofcekdkaaGreatDoor.Ex
section
variable {P : Program} {E : Env} {B : Nat} {cs : List Frame} {ρ : Ren} {st st' : St} {w : World}

structure ExtOK (P : Program) (E : Env) : Prop where
  noZero : ∀ f ty, E.noZero f = some ty → ∃ g T ps, P.funcs[f]? = some g ∧ g.name ≠ "runtime.NumGoroutine" ∧ g.body = none ∧ Extern.findNext g = none ∧
    Extern.find g = some (Extern.BytealgMakeNoZero.makeNoZero ps #[T]) ∧ P.underlying T = some (.slice ty)
  same : ∀ f, E.same f = true → ∃ g, P.funcs[f]? = some g ∧ g.name ≠ "runtime.NumGoroutine" ∧ g.body = none ∧ Extern.findNext g = none ∧ Extern.find g = some Extern.AbiNoEscape.same

theorem same_ok (h : ExtOK P E) {f : Nat} {v : AV} {x : Value} {fr : Frame} (hs : E.same f = true) (hh : HRs E B ρ st w) (hv : VR ρ v x) : InvPost P E B (.fn (.func f) #[]) #[x] fr cs ρ st w v st := by
  obtain ⟨g, h1, h2, h3, h4, h5⟩ := h.same f hs
  have hs' : Extern.AbiNoEscape.same #[x] = pure x := rfl
  exact ⟨ρ, w, x, hv, hh, Ev.refl _ _ _ _, .refl _, .inl (by simp [invoke, callFunc, h1, h2, h3, h4, h5, hs'])⟩

theorem noZero_ok (h : ExtOK P E) {f ty n g : Nat} {x : Value} {fr : Frame} (hs : E.noZero f = some ty) (hn : n < 1000000) (hh : HRs E B ρ st w) (hv : VR ρ (.int .i64 n) x)
    (hg : st.newG (.cells ty 0 [{ m := 0, fx := false, rel := 0, cs := [] }]) = some (g, st')) : InvPost P E B (.fn (.func f) #[]) #[x] fr cs ρ st w (.su g 0 0 n 1) st' := by
  obtain ⟨F, T, ps, h1, h2, h3, h4, h5, h6⟩ := h.noZero f ty hs
  cases hv
  obtain ⟨c, hr, hc, _⟩ := Lib.run_makeNoZero w ps T ty h6 n (by omega)
  have hw : HRs E B ρ st { w with drawn := w.drawn + 1 + 1 } := HR.drawn hh _
  obtain ⟨ρ', a1, a2, a3, a4, _⟩ := newGrown_ok (xs := []) (c := c) (fz := (0, 0)) hw hg (by simp) .nil (fun j hj => by simp at hj) (by simp) (fun o _ => by simp)
  have := VR.su (ρ := ρ') g 0 0 n 1 ⟨w.heap.size, 0, c.size⟩ a4 (by omega) (by simp; omega)
  refine ⟨ρ', _, _, this, a1, (Ev.drawn ρ st.hp st.nx w _).trans a2, a3, .inl ?_⟩
  simp [invoke, callFunc, h1, h2, h3, h4, h5, hr]
  rfl

def noName : AV → Bool
  | .bool _ => true
  | .int _ _ => true
  | .str _ => true
  | .nilp => true
  | .nils => true
  | .nilm => true
  | .nilf => true
  | .nili => true
  | .tok _ => true
  | .iface _ v => noName v
  | _ => false

theorem noName_ok {ρ₂ : Ren} (ht : ρ₂.tok = ρ.tok) : ∀ {v : AV} {x : Value}, noName v = true → VR ρ v x → VR ρ₂ v x
  | .bool b, _, _, h => by cases h; exact .bool b
  | .int k n, _, _, h => by cases h; exact .int k n
  | .str l, _, _, h => by cases h; exact .str l
  | .nilp, _, _, h => by cases h; exact .nilp
  | .nils, _, _, h => by cases h; exact .nils
  | .nilm, _, _, h => by cases h; exact .nilm
  | .nilf, _, _, h => by cases h; exact .nilf
  | .nili, _, _, h => by cases h; exact .nili
  | .tok i, _, _, h => by cases h; rw [← congrFun ht i]; exact .tok i
  | .iface t v, _, hn, h => by
    cases h with
    | iface _ _ x h => exact .iface _ _ _ (noName_ok ht (by simpa [noName] using hn) h)
  | .ptr .., _, hn, _ => by simp [noName] at hn
  | .sl .., _, hn, _ => by simp [noName] at hn
  | .su .., _, hn, _ => by simp [noName] at hn
  | .sr .., _, hn, _ => by simp [noName] at hn
  | .map _, _, hn, _ => by simp [noName] at hn
  | .func .., _, hn, _ => by simp [noName] at hn
  | .agg _, _, hn, _ => by simp [noName] at hn
  | .tup _, _, hn, _ => by simp [noName] at hn

theorem noNames_ok {ρ₂ : Ren} (ht : ρ₂.tok = ρ.tok) : ∀ {l : List AV} {xs : List Value}, (∀ v, v ∈ l → noName v = true) → VRL ρ l xs → VRL ρ₂ l xs
  | [], _, _, h => by cases h; exact .nil
  | v :: l, _, hn, h => by
    cases h with
    | cons _ x _ xs hx hs => exact .cons _ _ _ _ (noName_ok ht (hn v (by simp)) hx) (noNames_ok ht (fun u hu => hn u (by simp [hu])) hs)

def St.bare : St := ⟨0, .lf, .lf, NG, [], []⟩

theorem HR.env {E E0 : Env} {hp : Tr GO} {nx : Nat} (hg : E0.glob = E.glob) (h : HR E B ρ hp nx w) : HR E0 B ρ hp nx w :=
  ⟨h.fresh, h.one, h.low, h.base, h.above, h.glob, by rw [hg]; exact h.gcell, h.obj, h.sep⟩

theorem HR.bare {E0 : Env} {hp : Tr GO} {nx : Nat} (hg : E0.glob = E.glob) (hno : ∀ g cs v, E.glob g = some cs → v ∈ cs → noName v = true) (h : HR E B ρ hp nx w) : HR E0 B (ρ.cut NG) .lf NG w := by
  refine ⟨fun g m L hL => let ⟨a, b, _⟩ := Ren.cut_some hL; ⟨a, b⟩, h.one, Nat.le_refl _, h.base, fun g m L hg hL => ?_, fun g hg => ?_, fun g cs hgl hcs => ?_, fun g o hg => by simp at hg, fun g h o p hg => by simp at hg⟩
  · obtain ⟨a, _, _⟩ := Ren.cut_some hL
    omega
  · obtain ⟨t, ht⟩ := h.glob g hg
    exact ⟨t, Ren.cut_at hg (by decide) ht⟩
  · rw [hg] at hcs
    obtain ⟨c, ty, fz, h1, h2, h3⟩ := h.gcell g cs hgl hcs
    refine ⟨c, ty, fz, h1, h2, fun i v e => ?_⟩
    obtain ⟨y, hy, hv⟩ := h3 i v e
    exact ⟨y, hy, noName_ok (ρ := ρ) (ρ₂ := ρ.cut NG) rfl (hno g cs v hcs (List.mem_of_getElem? e)) hv⟩

theorem HR.quiet {hp : Tr GO} {nx : Nat} {w' : World} (h : HR E B ρ hp nx w) (hs : w.heap.size ≤ w'.heap.size) (hb : ∀ r, r < w.heap.size → w'.heap[r]? = w.heap[r]?) : HR E B ρ hp nx w' := by
  refine ⟨h.fresh, h.one, h.low, Nat.le_trans h.base hs, h.above, h.glob, fun g cs hg hcs => ?_, fun g o hg => ?_, h.sep⟩
  · obtain ⟨c, ty, fz, h1, h2, h3⟩ := h.gcell g cs hg hcs
    exact ⟨c, ty, fz, by rw [hb g (Nat.lt_of_lt_of_le h2 h.base)]; exact h1, h2, h3⟩
  · obtain ⟨a, b, c⟩ := h.obj g o hg
    exact ⟨a, b, c.keep (.refl _) fun m L hm hL => hb _ (c.in_heap hm hL)⟩

theorem summ_ok {E0 : Env} {self : Self} (hg : E0.glob = E.glob) (hno : ∀ g cs v, E.glob g = some cs → v ∈ cs → noName v = true) (hA : AllOK P E0 B) (hS : SelfOK P E0 B self) (hR : RestOK P E0 B self)
    {f : Nat} {args : List AV} {v : AV} {s : St} {xs : List Value} (fr : Frame) (cs : List Frame) (hargs : ∀ v, v ∈ args → noName v = true) (hv : noName v = true) (hrun : callB E0 self f args .bare = .one v s)
    (hh : HRs E B ρ st w) (hx : VRL ρ args xs) : InvPost P E B (.fn (.func f) #[]) xs.toArray fr cs ρ st w v st := by
  have h0 : HRs E0 B (ρ.cut NG) .bare w := HR.bare hg hno hh
  have := callB_ok (f := f) hA hS hR (fr :: cs) h0 (noNames_ok (ρ := ρ) (ρ₂ := ρ.cut NG) rfl hargs hx)
  rw [hrun] at this
  obtain ⟨hent, ρ', w', x, ⟨fr', h1, h2, h3⟩, h4, h5, h6, h7⟩ := this
  have hq : ∀ r, r < w.heap.size → w'.heap[r]? = w.heap[r]? := fun r hr => h6.frame r hr (by
    rintro ⟨g, o, m, L, hgo, _⟩
    simp [St.bare] at hgo)
  refine ⟨ρ, w', x, noName_ok (ρ := ρ') (ρ₂ := ρ) (by rw [h6.le.tok]; rfl) hv h4, HR.quiet hh h6.size hq, ⟨.refl _, Nat.le_refl _, fun _ _ _ h => .inl h, h6.os, h6.tape, h6.output, h6.size, fun r hr _ => hq r hr, fun r h => .inr h⟩, .refl _, .inr (.inl ⟨f, xs.toArray, hent w, h1.trans (.one (step_leave_returned h3))⟩)⟩

theorem summ_calls {f : Nat} {v : AV} {x : Value} {xs : Array Value} (fr : Frame) (cs : List Frame) (hent : ∀ w, (invoke (.fn (.func f) #[]) xs).run P w = .ok (.enter f xs) w)
    (hc : Calls P f xs w fun e w' => e = .returned x ∧ w' = w) (hv : VR ρ v x) (hh : HRs E B ρ st w) : InvPost P E B (.fn (.func f) #[]) xs fr cs ρ st w v st := by
  obtain ⟨e, w', fr', ⟨rfl, rfl⟩, h1, h2, h3⟩ := hc (fr :: cs)
  exact ⟨ρ, w', x, hv, hh, Ev.refl _ _ _ _, .refl _, .inr (.inl ⟨f, xs, hent w', Steps.trans h1 (.one (step_leave_returned h3))⟩)⟩

end
end Go.Proofs.YtcedalofcekdkaaGreatDoor.Ex
end

section
namespace Go.Proofs.YtcedalofcekdkaaGreatDoor.Ex
section
variable {P : Program} {E : Env} {B : Nat} {b : Frame} {k : List Item} {cs : List Frame} {ρ : Ren} {st st' : St} {a : Act} {w : World} {self : Self} {ro : Option Nat}

theorem around_ok {d : Nat} {st1 : St} (hf : Fr ρ ro b) (hi : Inv E B ρ st a w) (h : around ro st = some (d, st1)) :
    ∃ ρ1 w1 M mark, ρ1.loc d 0 = some M ∧ Inv E B ρ1 st1 { a with defers := mark ++ a.defers } w1 ∧ Evs ρ st w ρ1 st1 w1 ∧ Logs st st1 ∧ st1.ntm = st.ntm ∧ st1.tm = st.tm ∧
      ∀ (fn : Nat) (ps : Array Nat) (asg body : Code), (Instr.enterLoop fn a.tmps ps asg body b.roundOf).run P w =
        .ok (w1.heap.size, mark) { w1 with heap := w1.heap.push (.loop { state := .ready, pending := none, fn := fn, tmps := a.tmps, params := ps, assign := asg, body := body, defers := M.b }) } := by
  unfold around at h
  cases ro with
  | some g =>
    simp only at h
    split at h
    · rename_i z1 z2 z3 z4 z5 z6 z7 z8 d' eg
      simp at h
      obtain ⟨rfl, rfl⟩ := h
      rw [getG_eq] at eg
      obtain ⟨L, M, f, tmps, hL, hM, hb, _⟩ := (hi.hr.obj g _ eg).2.2
      obtain ⟨L', hL', hro⟩ := hf
      rw [hL] at hL'; cases hL'
      refine ⟨ρ, w, M, [], hM, by simpa using hi, Ev.refl _ _ _ _, .refl _, rfl, rfl, fun fn ps asg body => ?_⟩
      simp [Instr.enterLoop, hro, Instr.getLoop, run_getMap hb]
    · cases h
  | none =>
    simp only at h
    split at h
    · rename_i d' s en
      simp at h
      obtain ⟨rfl, rfl⟩ := h
      obtain ⟨rfl, hs, hhp, hnx⟩ := newG_eq en
      obtain ⟨h1, h2⟩ := HR.new hi.hr (.deferred (some [])) .defd 0 0 rfl (fun w' hw' _ => ⟨_, Ren.with_at _ _ _ _, hw'⟩)
      have hle := h2.le
      have e1 : (s.withDf st.nx).hp = s.hp ∧ (s.withDf st.nx).nx = s.nx ∧ (s.withDf st.nx).ntm = s.ntm ∧ (s.withDf st.nx).tm = s.tm ∧ (s.withDf st.nx).df = st.nx :: s.df ∧ (s.withDf st.nx).lg = s.lg := by cases s; exact ⟨rfl, rfl, rfl, rfl, rfl, rfl⟩
      obtain ⟨q1, q2, q3, q4, q5, q6⟩ := e1
      have hro : b.roundOf = none := hf
      refine ⟨ρ.with st.nx 0 ⟨w.heap.size, 0, 0⟩, { w with heap := w.heap.push (.deferred (some [])) }, ⟨w.heap.size, 0, 0⟩, [{ target := .collected w.heap.size, args := #[] }], Ren.with_at _ _ _ _, ⟨?_, ?_, ?_⟩, ?_, ?_, ?_, ?_, fun fn ps asg body => ?_⟩
      · rw [q3, q4, hs.ntm, hs.tm]; exact hi.tr.mono hle
      · obtain ⟨bs, d1, d2, d3⟩ := Inv.mono_df hle hi.df
        refine ⟨w.heap.size :: bs, by simp [d1], by rw [q5, hs.df]; simp [d2], fun i g bk hg hbk => ?_⟩
        rw [q5, hs.df] at hg
        cases i with
        | zero => simp at hg hbk; subst hg; subst hbk; exact ⟨_, Ren.with_at _ _ _ _, rfl⟩
        | succ i => exact d3 i g bk (by simpa using hg) (by simpa using hbk)
      · rw [q1, q2, hhp, hnx]; exact h1
      · unfold Evs; rw [q1, q2, hhp, hnx]; exact h2
      · exact ⟨by rw [q2]; exact hs.log.nx, by rw [q6]; exact hs.log.lg, by rw [q6, q1]; exact hs.log.same⟩
      · rw [q3, hs.ntm]
      · rw [q4, hs.tm]
      · simp [Instr.enterLoop, hro]
        rfl
    · cases h

theorem range_code (hA : AllOK P E B) (hS : SelfOK P E B self) (hR : RestOK P E B self) {f : Operand} {ps : Array Nat} {asg body : Code} (hf : Fr ρ ro b) (hi : Inv E B ρ st a w) :
    (cRange f ps asg body E self ro st).Holds (CPost P E B b k cs (.rangeFunc f ps asg body) ρ st a w) := by
  unfold cRange
  split
  · rename_i u d st1 e1 e2
    split
    · trivial
    · rename_i l st2 e3
      obtain ⟨ρ1, w1, M, mark, hM, hi1, hev1, hlg1, hn1, ht1, henter⟩ := around_ok (P := P) hf hi e2
      have hu := ev_ok hi e1
      have e3' : st1.newG (.loop .ready none 0 st1.ntm st1.tm ps.toList asg body d) = some (l, st2) := by cases st1; exact e3
      obtain ⟨rfl, hs2, hhp2, hnx2⟩ := newG_eq e3'
      obtain ⟨h1, h2⟩ := HR.new hi1.hr (.loop { state := .ready, pending := none, fn := b.fn, tmps := a.tmps, params := ps, assign := asg, body := body, defers := M.b }) (.loop .ready none 0 st1.ntm st1.tm ps.toList asg body d) 0 0 rfl
        (fun w' hw' hle => ⟨_, M, b.fn, a.tmps, Ren.with_at _ _ _ _, hle.loc _ _ _ hM, by simpa [LS.st] using hw', hi1.tr.mono hle⟩)
      generalize hρ2 : ρ1.with st1.nx 0 ⟨w1.heap.size, 0, 0⟩ = ρ2 at h1 h2
      have hL : ρ2.loc st1.nx 0 = some ⟨w1.heap.size, 0, 0⟩ := by rw [← hρ2]; exact Ren.with_at _ _ _ _
      have hle2 : ρ.le ρ2 := hev1.le.trans h2.le
      have hHR2 : HRs E B ρ2 st2 { w1 with heap := w1.heap.push (.loop { state := .ready, pending := none, fn := b.fn, tmps := a.tmps, params := ps, assign := asg, body := body, defers := M.b }) } := by
        unfold HRs; rw [hhp2, hnx2]; exact h1
      have hEv2 : Evs ρ1 st1 w1 ρ2 st2 { w1 with heap := w1.heap.push (.loop { state := .ready, pending := none, fn := b.fn, tmps := a.tmps, params := ps, assign := asg, body := body, defers := M.b }) } := by
        unfold Evs; rw [hhp2, hnx2]; exact h2
      unfold rangeV
      split
      · rename_i g first cap
        have hu2 := hu.mono hle2
        generalize hfv : a.eval f = fv at hu2
        cases hu2 with
        | func _ _ _ x y hny ha hb =>
          rw [appL_eq, appL_eq]
          have hargs : VRL ρ2 (first ++ ([.func (.yield st1.nx) [] []] ++ cap)) (x ++ ([Value.func (.yield w1.heap.size) #[] #[]] ++ y)) :=
            ha.append ((VRL.cons _ _ _ _ (by simpa using VR.yield (ρ := ρ2) st1.nx [] [] [] [] _ hL .nil .nil) .nil).append hb)
          refine (callB_ok hA hS hR (b.atR { a with defers := mark ++ a.defers } (.inRangeFunc w1.heap.size :: k) :: cs) hHR2 hargs).bind ?_
          rintro v st3 ⟨hent, ρ3, w3, xv, ⟨fr', g1, g2, g3⟩, g4, g5, g6, g7⟩
          have hsteps : Steps P (lone (b.atR a (.code (.rangeFunc f ps asg body) :: k)) cs w) (lone (b.atR { a with defers := mark ++ a.defers } (.endRangeFunc w1.heap.size :: k)) cs w3) := by
            have he : (x.toArray ++ #[Value.func (.yield w1.heap.size) #[] #[]]) ++ y.toArray = (x ++ ([Value.func (.yield w1.heap.size) #[] #[]] ++ y)).toArray := by
              apply Array.ext'; simp
            refine .head (stepR_rangeFunc (w₁' := { w1 with heap := w1.heap.push (.loop { state := .ready, pending := none, fn := b.fn, tmps := a.tmps, params := ps, assign := asg, body := body, defers := M.b }) }) (w₂ := { w1 with heap := w1.heap.push (.loop { state := .ready, pending := none, fn := b.fn, tmps := a.tmps, params := ps, assign := asg, body := body, defers := M.b }) }) (henter b.fn ps asg body) (d := { target := .fn (.func g) y.toArray, args := x.toArray ++ #[Value.func (.yield w1.heap.size) #[] #[]] }) (f := g) (args := (x ++ ([Value.func (.yield w1.heap.size) #[] #[]] ++ y)).toArray) ?_ ?_) ?_
            · have hcst : a.eval (.const (Value.func (.yield w1.heap.size) #[] #[])) = Value.func (.yield w1.heap.size) #[] #[] := rfl
              simp [resolve, Deferred.ofValue, hfv, hcst]
            · simp only
              rw [invoke_cap, he]; exact hent _
            · rw [← finish_atR_inRangeFunc (a := { a with defers := mark ++ a.defers }) _ xv]
              exact g1.trans (.one (step_leave_returned g3))
          split
          · rename_i s pend z1 z2 z3 z4 z5 z6 z7 eg
            rw [getG_eq] at eg
            split
            · trivial
            · rename_i hbusy
              split
              · trivial
              · rename_i st4 hd
                obtain ⟨L', M', f', tmps', hL', hM', hb', _⟩ := (g5.obj _ _ eg).2.2
                have hL3 := g6.le.loc _ _ _ hL
                rw [hL3] at hL'; cases hL'
                obtain ⟨k1, k2, k3⟩ := delG_eq hd
                have hst : s.st ≠ LoopState.busy := by
                  cases s with
                  | busy => exact absurd rfl hbusy
                  | ready => simp [LS.st]
                  | done => simp [LS.st]
                  | exhausted => simp [LS.st]
                have hend : ∃ w4, (Instr.endLoop w1.heap.size).run P w3 = .ok pend w4 ∧ w4.os = w3.os ∧ w4.tape = w3.tape ∧ w4.output = w3.output ∧ w4.heap.size = w3.heap.size ∧ ∀ r, r ≠ w1.heap.size → w4.heap[r]? = w3.heap[r]? := by
                  refine ⟨{ w3 with heap := w3.heap.setIfInBounds w1.heap.size (.loop { state := .exhausted, pending := pend, fn := f', tmps := tmps', params := z4.toArray, assign := z5, body := z6, defers := M'.b }) }, by simp [Instr.endLoop, Instr.getLoop, run_getMap hb', hst, run_setMap hb'], rfl, rfl, rfl, by simp, fun r hr => ?_⟩
                  simp only [Array.getElem?_setIfInBounds]
                  rw [if_neg (fun e => hr e.symm)]
                obtain ⟨w4, hend, o1, o2, o3, o4, o5⟩ := hend
                obtain ⟨j1, j2⟩ := HR.lose (w' := w4) g5 eg o1 o2 o3 o4 (fun r hr hn => o5 r fun er => hn ⟨_, 0, _, eg, by simp [memsOf], hL3, er.symm⟩)
                have hle13 : ρ1.le ρ3 := h2.le.trans g6.le
                have hEv4 : Evs ρ st w ρ3 st4 w4 := by
                  have := (hev1.trans hEv2).trans g6
                  unfold Evs at this ⊢
                  rw [k2, k3]; exact this.trans j2
                have hLog4 : Logs st st4 := ((hlg1.trans hs2.log).trans g7.log).trans k1.log
                have hInv4 : Inv E B ρ3 st4 { a with defers := mark ++ a.defers } w4 := by
                  refine ⟨?_, ?_, by rw [k2, k3]; exact j1⟩
                  · rw [k1.ntm, k1.tm, g7.ntm, g7.tm, hs2.ntm, hs2.tm]; exact hi1.tr.mono hle13
                  · rw [k1.df, g7.df, hs2.df]; exact Inv.mono_df hle13 hi1.df
                have hfin := hsteps.trans (.one (stepR_endRangeFunc (b := b) (a := { a with defers := mark ++ a.defers }) (k := k) (cs := cs) hend))
                cases pend with
                | none => exact ⟨ρ3, _, w4, _, hfin, rfl, hInv4, hEv4, hLog4⟩
                | some code =>
                  refine (hS code ro b k cs ρ3 st4 _ w4 (hf.mono hEv4.le) hInv4).mono ?_
                  rintro e s' ⟨ρ5, a5, w5, σ, q1, q2, q3, q4, q5⟩
                  exact ⟨ρ5, a5, w5, σ, hfin.trans q1, q2, q3, hEv4.trans q4, hLog4.trans q5⟩
          · trivial
      · trivial
  · trivial

end
end Go.Proofs.YtcedalofcekdkaaGreatDoor.Ex
end

section
namespace Go.Proofs.YtcedalofcekdkaaGreatDoor.Ex

mutual
theorem avEq_ok : ∀ (n : Nat) (x y : AV), avEq n x y = true → x = y
  | 0, _, _, h => by simp [avEq] at h
  | n + 1, x, y, h => by
    have ia := fun a b => avEq_ok n a b
    have il := fun a b => avsEq_ok n a b
    cases x <;> cases y <;> simp only [avEq, Bool.and_eq_true, Bool.false_eq_true] at h <;> first
      | rfl
      | (have := Nat.eq_of_beq_eq_true h; subst this; rfl)
      | (obtain ⟨h1, h2⟩ := h; have := kindEq_ok h1; rw [intEq_ok] at h2; have := eq_of_beq h2; subst_vars; rfl)
      | (obtain ⟨⟨h1, h2⟩, h3⟩ := h; have := Nat.eq_of_beq_eq_true h1; have := Nat.eq_of_beq_eq_true h2; have := Nat.eq_of_beq_eq_true h3; subst_vars; rfl)
      | (obtain ⟨⟨⟨⟨h1, h2⟩, h3⟩, h4⟩, h5⟩ := h; have := Nat.eq_of_beq_eq_true h1; have := Nat.eq_of_beq_eq_true h2; have := Nat.eq_of_beq_eq_true h3; have := Nat.eq_of_beq_eq_true h4; have := Nat.eq_of_beq_eq_true h5; subst_vars; rfl)
      | (obtain ⟨⟨h1, h2⟩, h3⟩ := h; have := of_decide_eq_true h1; have := il _ _ h2; have := il _ _ h3; subst_vars; rfl)
      | (obtain ⟨h1, h2⟩ := h; have := Nat.eq_of_beq_eq_true h1; have := ia _ _ h2; subst_vars; rfl)
      | (have := il _ _ h; subst this; rfl)
      | (have := eq_of_beq h; subst this; rfl)
theorem avsEq_ok : ∀ (n : Nat) (x y : List AV), avsEq n x y = true → x = y
  | 0, _, _, h => by simp [avsEq] at h
  | n + 1, [], [], _ => rfl
  | n + 1, [], _ :: _, h => by simp [avsEq] at h
  | n + 1, _ :: _, [], h => by simp [avsEq] at h
  | n + 1, x :: xs, y :: ys, h => by
    simp only [avsEq, Bool.and_eq_true] at h
    rw [avEq_ok n x y h.1, avsEq_ok n xs ys h.2]
end

theorem entsEq_ok : ∀ (x y : List (AV × AV × Nat)), entsEq x y = true → x = y
  | [], [], _ => rfl
  | [], (_, _, _) :: _, h => by simp [entsEq] at h
  | (_, _, _) :: _, [], h => by simp [entsEq] at h
  | (k, v, b) :: xs, (k', v', b') :: ys, h => by
    simp only [entsEq, Bool.and_eq_true] at h
    obtain ⟨⟨⟨h1, h2⟩, h3⟩, h4⟩ := h
    rw [avEq_ok _ _ _ h1, avEq_ok _ _ _ h2, Nat.eq_of_beq_eq_true h3, entsEq_ok xs ys h4]

theorem koEq_ok : ∀ (x y : KO), koEq x y = true → x = y
  | .cells a b c, .cells a' b' c', h => by
    simp only [koEq, Bool.and_eq_true] at h
    obtain ⟨⟨h1, h2⟩, h3⟩ := h
    rw [Nat.eq_of_beq_eq_true h1, eq_of_beq h2, avsEq_ok _ _ _ h3]
  | .map a b, .map a' b', h => by
    simp only [koEq, Bool.and_eq_true] at h
    rw [entsEq_ok _ _ h.1, Nat.eq_of_beq_eq_true h.2]
  | .cells .., .map .., h => by simp [koEq] at h
  | .map .., .cells .., h => by simp [koEq] at h

theorem kosEq_ok : ∀ (x y : List KO), kosEq x y = true → x = y
  | [], [], _ => rfl
  | [], _ :: _, h => by simp [kosEq] at h
  | _ :: _, [], h => by simp [kosEq] at h
  | x :: xs, y :: ys, h => by
    simp only [kosEq, Bool.and_eq_true] at h
    rw [koEq_ok x y h.1, kosEq_ok xs ys h.2]

structure GoodL (lo : Nat) (l : List (Nat × Nat)) : Prop where
  lo : ∀ p, p ∈ l → lo ≤ p.1
  nd : (l.map Prod.fst).Nodup

theorem seenG_false {g : Nat} : ∀ {l : List (Nat × Nat)}, seenG g l = false → ∀ p, p ∈ l → p.1 ≠ g
  | [], _, p, hp => by cases hp
  | (h, k) :: l, e, p, hp => by
    simp only [seenG] at e
    cases hb : Nat.beq g h with
    | true => simp [hb] at e
    | false =>
      simp only [hb] at e
      rcases List.mem_cons.1 hp with rfl | hp
      · intro c; simp only at c; subst c; simp at hb
      · exact seenG_false e p hp

theorem note_good {lo g m : Nat} {l : List (Nat × Nat)} (h : GoodL lo l) : GoodL lo (note lo g m l) := by
  unfold note
  cases hb : Nat.blt g lo with
  | true => exact h
  | false =>
    have hlo : lo ≤ g := by
      rcases Nat.lt_or_ge g lo with x | x
      · have : Nat.blt g lo = true := by simp [Nat.blt]; omega
        rw [hb] at this; cases this
      · exact x
    cases hs : seenG g l with
    | true => exact h
    | false =>
      simp only [snocL_eq]
      refine ⟨fun p hp => ?_, ?_⟩
      · rcases List.mem_append.1 hp with hp | hp
        · exact h.lo p hp
        · simp at hp; subst hp; exact hlo
      · rw [List.map_append, List.nodup_append]
        refine ⟨h.nd, by simp, fun a ha b hb' => ?_⟩
        simp at hb'; subst hb'
        obtain ⟨p, hp, rfl⟩ := List.mem_map.1 ha
        exact seenG_false hs p hp

mutual
theorem names_good {lo : Nat} : ∀ (v : AV) (l : List (Nat × Nat)), GoodL lo l → GoodL lo (names lo v l)
  | .ptr .., l, h => note_good h
  | .sl .., l, h => note_good h
  | .su .., l, h => note_good h
  | .sr .., l, h => note_good h
  | .map _, l, h => note_good h
  | .func _ a b, l, h => namesL_good b _ (namesL_good a _ h)
  | .iface _ v, l, h => names_good v _ h
  | .agg a, l, h => namesL_good a _ h
  | .tup a, l, h => namesL_good a _ h
  | .bool _, _, h => h
  | .int _ _, _, h => h
  | .str _, _, h => h
  | .nilp, _, h => h
  | .nils, _, h => h
  | .nilm, _, h => h
  | .nilf, _, h => h
  | .nili, _, h => h
  | .tok _, _, h => h
theorem namesL_good {lo : Nat} : ∀ (v : List AV) (l : List (Nat × Nat)), GoodL lo l → GoodL lo (namesL lo v l)
  | [], _, h => h
  | v :: vs, l, h => namesL_good vs _ (names_good v _ h)
end

theorem entNames_good {lo : Nat} : ∀ (es : List (AV × AV × Nat)) (l : List (Nat × Nat)), GoodL lo l → GoodL lo (entNames lo es l)
  | [], _, h => h
  | (k, v, _) :: es, l, h => entNames_good es _ (names_good v _ (names_good k _ h))

theorem spread_good {lo : Nat} {hp : Tr GO} : ∀ (n i : Nat) (l l' : List (Nat × Nat)), GoodL lo l → spread lo hp n i l = some l' → GoodL lo l'
  | 0, _, _, _, _, h => by simp [spread] at h
  | n + 1, i, l, l', hl, h => by
    simp only [spread] at h
    split at h
    · simp at h; subst h; exact hl
    · split at h
      · split at h
        · exact spread_good n _ _ _ (namesL_good _ _ hl) h
        · cases h
      · exact spread_good n _ _ _ (entNames_good _ _ hl) h
      · cases h

theorem placeOf_ok {g m : Nat} : ∀ (l : List (Nat × Nat)) (i j : Nat), placeOf g m l i = some j → i ≤ j ∧ l[j - i]? = some (g, m)
  | [], _, _, h => by simp [placeOf] at h
  | (a, b) :: l, i, j, h => by
    simp only [placeOf] at h
    split at h
    · rename_i hb
      split at h
      · rename_i hm
        simp at h; subst h
        rw [Nat.eq_of_beq_eq_true hb, Nat.eq_of_beq_eq_true hm]
        exact ⟨Nat.le_refl _, by simp⟩
      · cases h
    · obtain ⟨h1, h2⟩ := placeOf_ok l (i + 1) j h
      refine ⟨by omega, ?_⟩
      rw [show j - i = (j - (i + 1)) + 1 by omega]
      simpa using h2

def Ren.joined (ρ : Ren) (lo : Nat) (l : List (Nat × Nat)) : Ren :=
  { ρ with loc := fun g m => if g < lo then (if m < lo then ρ.loc g m else none) else if m = 0 then (match l[g - lo]? with | some p => ρ.loc p.1 p.2 | none => none) else none }

section
variable {ρ : Ren} {lo : Nat} {l : List (Nat × Nat)}

theorem newName_ok {g m g' m' : Nat} {L : Loc} (h : newName lo l g m = some (g', m')) (hL : ρ.loc g m = some L) : (ρ.joined lo l).loc g' m' = some L := by
  unfold newName at h
  split at h
  · rename_i hb
    split at h
    · rename_i hm
      simp at h
      obtain ⟨rfl, rfl⟩ := h
      have h1 : g < lo := by simp [Nat.blt] at hb; omega
      have h2 : m < lo := by simp [Nat.blt] at hm; omega
      simp [Ren.joined, h1, h2, hL]
    · cases h
  · split at h
    · rename_i i hp
      simp at h
      obtain ⟨rfl, rfl⟩ := h
      obtain ⟨_, h1⟩ := placeOf_ok l 0 i hp
      simp only [Nat.sub_zero] at h1
      have : ¬ lo + i < lo := by omega
      simp [Ren.joined, h1, hL, this]
    · cases h

theorem newName_zero {g g' m' : Nat} (h : newName lo l g 0 = some (g', m')) : m' = 0 := by
  unfold newName at h
  split at h
  · split at h
    · simp at h; exact h.2.symm
    · cases h
  · split at h
    · simp at h; exact h.2.symm
    · cases h

mutual
theorem ren_ok : ∀ {v : AV} {x : Value}, VR ρ v x → ∀ {v' : AV}, ren lo l v = some v' → VR (ρ.joined lo l) v' x
  | _, _, .bool b, v', h => by simp [ren] at h; subst h; exact .bool b
  | _, _, .int k n, v', h => by simp [ren] at h; subst h; exact .int k n
  | _, _, .str s, v', h => by simp [ren] at h; subst h; exact .str s
  | _, _, .nilp, v', h => by simp [ren] at h; subst h; exact .nilp
  | _, _, .ptr g m o L hL, v', h => by
    simp only [ren] at h
    split at h
    · rename_i g' m' e; simp at h; subst h; exact .ptr _ _ _ L (newName_ok e hL)
    · cases h
  | _, _, .nils, v', h => by simp [ren] at h; subst h; exact .nils
  | _, _, .sl g m o n c L hL, v', h => by
    simp only [ren] at h
    split at h
    · rename_i g' m' e; simp at h; subst h; exact .sl _ _ _ _ _ L (newName_ok e hL)
    · cases h
  | _, _, .su g m o n z L hL hz hc, v', h => by
    simp only [ren] at h
    split at h
    · rename_i g' m' e; simp at h; subst h; exact .su _ _ _ _ _ L (newName_ok e hL) hz hc
    · cases h
  | _, _, .sr g m o n z L hL hz hn hc, v', h => by
    simp only [ren] at h
    split at h
    · rename_i g' m' e; simp at h; subst h; exact .sr _ _ _ _ _ L (newName_ok e hL) hz hn hc
    · cases h
  | _, _, .nilm, v', h => by simp [ren] at h; subst h; exact .nilm
  | _, _, .map g L hL, v', h => by
    simp only [ren] at h
    split at h
    · rename_i g' m' e
      simp at h; subst h
      have := newName_zero e; subst this
      exact .map _ L (newName_ok e hL)
    · cases h
  | _, _, .nilf, v', h => by simp [ren] at h; subst h; exact .nilf
  | _, _, .func f a b x y hf ha hb, v', h => by
    unfold ren at h
    split at h
    · rename_i e; cases e
    · rename_i e; cases e
    · rename_i e; cases e
    · rename_i e; cases e
    · rename_i e; cases e
    · cases h
    · rename_i e
      cases e
      split at h
      · rename_i a' b' ea eb
        simp at h; subst h
        exact .func _ _ _ _ _ hf (renL_ok ha ea) (renL_ok hb eb)
      · cases h
    · rename_i e; cases e
    · rename_i e; cases e
    · rename_i e; cases e
    · exact (‹∀ (f_1 : Fn) (a_1 b_1 : List AV), AV.func f a b = AV.func f_1 a_1 b_1 → False› f a b rfl).elim
  | _, _, .yield l' a b x y L hL ha hb, v', h => by simp [ren] at h
  | _, _, .nili, v', h => by simp [ren] at h; subst h; exact .nili
  | _, _, .iface t v x hv, v', h => by
    simp only [ren] at h
    split at h
    · rename_i v1 e; simp at h; subst h; exact .iface _ _ _ (ren_ok hv e)
    · cases h
  | _, _, .agg a x hv, v', h => by
    simp only [ren] at h
    split at h
    · rename_i v1 e; simp at h; subst h; exact .agg _ _ (renL_ok hv e)
    · cases h
  | _, _, .tup a x hv, v', h => by
    simp only [ren] at h
    split at h
    · rename_i v1 e; simp at h; subst h; exact .tup _ _ (renL_ok hv e)
    · cases h
  | _, _, .tok i, v', h => by simp [ren] at h; subst h; exact .tok (ρ := ρ.joined lo l) i
theorem renL_ok : ∀ {v : List AV} {x : List Value}, VRL ρ v x → ∀ {v' : List AV}, renL lo l v = some v' → VRL (ρ.joined lo l) v' x
  | _, _, .nil, v', h => by simp [renL] at h; subst h; exact .nil
  | _, _, .cons a x vs xs ha hs, v', h => by
    simp only [renL] at h
    split at h
    · rename_i a' vs' e1 e2
      simp at h; subst h
      exact .cons _ _ _ _ (ren_ok ha e1) (renL_ok hs e2)
    · cases h
end

theorem renL_length : ∀ {v v' : List AV}, renL lo l v = some v' → v'.length = v.length
  | [], v', h => by simp [renL] at h; subst h; rfl
  | a :: vs, v', h => by
    simp only [renL] at h
    split at h
    · rename_i a' vs' e1 e2; simp at h; subst h; simp [renL_length e2]
    · cases h

theorem renL_get : ∀ {v v' : List AV}, renL lo l v = some v' → ∀ (i : Nat) (a' : AV), v'[i]? = some a' → ∃ a, v[i]? = some a ∧ ren lo l a = some a'
  | [], v', h, i, a', e => by simp [renL] at h; subst h; simp at e
  | a :: vs, v', h, i, b, e => by
    simp only [renL] at h
    split at h
    · rename_i a' vs' e1 e2
      simp at h; subst h
      cases i with
      | zero => simp at e; subst e; exact ⟨a, by simp, e1⟩
      | succ i => simpa using renL_get e2 i b (by simpa using e)
    · cases h

theorem renE_ok : ∀ {es es' : List (AV × AV × Nat)} {fs : List MapEntry}, renE lo l es = some es' → EntsR ρ es fs → EntsR (ρ.joined lo l) es' fs
  | [], es', [], h, _ => by simp [renE] at h; subst h; trivial
  | [], _, _ :: _, _, h => h.elim
  | (_, _, _) :: _, _, [], _, h => h.elim
  | (k, v, b) :: es, es', f :: fs, h, hr => by
    simp only [renE] at h
    split at h
    · rename_i k' v' es2 e1 e2 e3
      simp at h; subst h
      exact ⟨ren_ok hr.1 e1, ren_ok hr.2.1 e2, hr.2.2.1, renE_ok e3 hr.2.2.2⟩
    · cases h
end

inductive Kept (lo : Nat) (hp : Tr GO) (l : List (Nat × Nat)) (g m : Nat) : KO → Prop
  | cells (ty hw : Nat) (ms : List Mem) (x : Mem) (cs : List AV) (h : hp.get g = some (.cells ty hw ms)) (hx : findM m ms = some x) (hc : renL lo l x.cs = some cs) : Kept lo hp l g m (.cells ty x.fx cs)
  | map (es es' : List (AV × AV × Nat)) (clk : Nat) (hm : m = 0) (h : hp.get g = some (.map es clk)) (he : renE lo l es = some es') : Kept lo hp l g m (.map es' clk)

theorem keepAll_ok {lo : Nat} {hp : Tr GO} {l : List (Nat × Nat)} : ∀ (r : List (Nat × Nat)) (ks : List KO), keepAll lo hp l r = some ks → ks.length = r.length ∧ ∀ (i g m : Nat), r[i]? = some (g, m) → ∃ k, ks[i]? = some k ∧ Kept lo hp l g m k
  | [], ks, h => by simp [keepAll] at h; subst h; exact ⟨rfl, fun i g m e => by simp at e⟩
  | (g, m) :: r, ks, h => by
    simp only [keepAll] at h
    have key : ∀ (k : KO) (ks' : List KO), keepAll lo hp l r = some ks' → Kept lo hp l g m k → ks = k :: ks' → ks.length = ((g, m) :: r).length ∧ ∀ (i g' m' : Nat), ((g, m) :: r)[i]? = some (g', m') → ∃ k, ks[i]? = some k ∧ Kept lo hp l g' m' k := by
      intro k ks' e hk hks
      obtain ⟨h1, h2⟩ := keepAll_ok r ks' e
      subst hks
      refine ⟨by simp [h1], fun i g' m' hi => ?_⟩
      cases i with
      | zero => simp at hi; obtain ⟨rfl, rfl⟩ := hi; exact ⟨k, by simp, hk⟩
      | succ i => simpa using h2 i g' m' (by simpa using hi)
    split at h
    · rename_i ty hw ms eg
      split at h
      · rename_i x ex
        split at h
        · rename_i cs ks' e1 e2
          simp at h
          exact key _ ks' e2 (.cells ty hw ms x cs eg ex e1) h.symm
        · cases h
      · cases h
    · rename_i es clk eg
      split at h
      · rename_i es' ks' e1 e2
        simp at h
        exact key _ ks' e2 (.map es es' clk rfl eg e1) h.symm
      · cases h
    · cases h

theorem layAll_get : ∀ (ks : List KO) (i : Nat) (hp : Tr GO) (g : Nat), (layAll i hp ks).get g = if i ≤ g then (match ks[g - i]? with | some k => some k.go | none => hp.get g) else hp.get g
  | [], i, hp, g => by simp [layAll]
  | k :: ks, i, hp, g => by
    have hl : layAll i hp (k :: ks) = layAll (i + 1) (Tr.put (some k.go) (pathOf i) hp) ks := by
      simp only [layAll]; cases Tr.put (some k.go) (pathOf i) hp <;> rfl
    rw [hl, layAll_get ks (i + 1), Tr.get_put]
    by_cases h1 : i + 1 ≤ g
    · rw [if_pos h1, if_pos (by omega : i ≤ g), show g - i = (g - (i + 1)) + 1 by omega, if_neg (by omega : ¬ g = i)]
      simp
    · rw [if_neg h1]
      by_cases h2 : g = i
      · subst h2; simp
      · rw [if_neg h2, if_neg (by omega : ¬ i ≤ g)]

theorem dropAll_cons (lo : Nat) (hp : Tr GO) (a : Nat) (wr : List Nat) (hb : Nat.blt a lo = true) : dropAll lo hp (a :: wr) = dropAll lo (Tr.put none (pathOf a) hp) wr := by
  simp only [dropAll, hb]; cases Tr.put none (pathOf a) hp <;> rfl

theorem dropAll_get (lo : Nat) : ∀ (wr : List Nat) (hp : Tr GO) (g : Nat), (dropAll lo hp wr).get g = if g < lo ∧ g ∈ wr then none else hp.get g
  | [], hp, g => by simp [dropAll]
  | a :: wr, hp, g => by
    cases hb : Nat.blt a lo with
    | true =>
      have ha : a < lo := by simp [Nat.blt] at hb; omega
      rw [dropAll_cons lo hp a wr hb, dropAll_get lo wr, Tr.get_put]
      by_cases h1 : g < lo ∧ g ∈ wr
      · rw [if_pos h1, if_pos ⟨h1.1, List.mem_cons_of_mem _ h1.2⟩]
      · rw [if_neg h1]
        by_cases h2 : g = a
        · subst h2; simp [ha]
        · rw [if_neg h2, if_neg]
          rintro ⟨c1, c2⟩
          rcases List.mem_cons.1 c2 with c2 | c2
          · exact h2 c2
          · exact h1 ⟨c1, c2⟩
    | false =>
      have ha : ¬ a < lo := fun e => by
        have : Nat.blt a lo = true := by simp [Nat.blt]; omega
        rw [hb] at this; cases this
      have hl : dropAll lo hp (a :: wr) = dropAll lo hp wr := by simp only [dropAll, hb]
      rw [hl, dropAll_get lo wr]
      by_cases h1 : g < lo ∧ g ∈ wr
      · rw [if_pos h1, if_pos ⟨h1.1, List.mem_cons_of_mem _ h1.2⟩]
      · rw [if_neg h1, if_neg]
        rintro ⟨c1, c2⟩
        rcases List.mem_cons.1 c2 with rfl | c2
        · exact ha c1
        · exact h1 ⟨c1, c2⟩

theorem written_mono : ∀ (o : Out AV) (r : List Nat × Nat) (g : Nat), g ∈ r.1 → g ∈ (written r o).1
  | .no _, r, g, h => h
  | .one _ s, r, g, h => by simp only [written, natsApp_eq]; exact List.mem_append_right _ h
  | .two x y, r, g, h => written_mono y _ g (written_mono x _ g h)

theorem leaf_ok {lo : Nat} {v : AV} {ks : List KO} {Q : AV → St → Prop} : ∀ (o : Out AV) (r : List Nat × Nat), o.Holds Q → packs lo v ks o = true →
    ∃ w s, Q w s ∧ pack lo w s.hp = some (v, ks) ∧ ∀ g, g ∈ s.lg → g ∈ (written r o).1
  | .no _, r, _, h => by simp [packs] at h
  | .one w s, r, hq, h => by
    simp only [packs] at h
    split at h
    · rename_i v' ks' e
      simp only [Bool.and_eq_true] at h
      rw [avEq_ok _ _ _ h.1, kosEq_ok _ _ h.2]
      exact ⟨w, s, hq, e, fun g hg => by simp only [written, natsApp_eq]; exact List.mem_append_left _ hg⟩
    · cases h
  | .two x y, r, hq, h => by
    simp only [packs, Bool.and_eq_true] at h
    rcases hq with hq | hq
    · obtain ⟨w, s, h1, h2, h3⟩ := leaf_ok x r hq h.1
      exact ⟨w, s, h1, h2, fun g hg => written_mono y _ g (h3 g hg)⟩
    · obtain ⟨w, s, h1, h2, h3⟩ := leaf_ok y (written r x) hq h.2
      exact ⟨w, s, h1, h2, h3⟩

section
variable {E : Env} {B : Nat}

theorem joined_get (st : St) (wr : List Nat) (ks : List KO) (hn : ∀ g, st.nx ≤ g → st.hp.get g = none) (g : Nat) (o : GO) (h : (joined st wr ks).hp.get g = some o) :
    (g < st.nx ∧ ¬ g ∈ wr ∧ st.hp.get g = some o) ∨ (∃ i k, g = st.nx + i ∧ ks[i]? = some k ∧ o = k.go) := by
  obtain ⟨ntm, tm, hp, nx, lg, df⟩ := st
  simp only [joined] at h
  simp only at hn ⊢
  rw [layAll_get, dropAll_get] at h
  by_cases hg : nx ≤ g
  · rw [if_pos hg] at h
    split at h
    · rename_i k e
      simp at h
      exact .inr ⟨g - nx, k, by omega, e, h.symm⟩
    · rw [if_neg (by omega), hn g hg] at h; cases h
  · rw [if_neg hg] at h
    split at h
    · cases h
    · rename_i hc
      exact .inl ⟨by omega, fun e => hc ⟨by omega, e⟩, h⟩

theorem joined_same (st : St) (wr : List Nat) (ks : List KO) : SameT st (joined st wr ks) := by
  obtain ⟨ntm, tm, hp, nx, lg, df⟩ := st
  refine ⟨rfl, rfl, rfl, Nat.le_add_right _ _, fun g hg => ?_, fun g hg hn => ?_⟩
  · simp only [joined, natsApp_eq]; exact List.mem_append_right _ hg
  · simp only [joined, natsApp_eq] at hn ⊢
    simp only at hg
    rw [layAll_get, dropAll_get, if_neg (by omega), if_neg (fun c => hn (List.mem_append_left _ c.2))]

theorem joined_nx (st : St) (wr : List Nat) (ks : List KO) : (joined st wr ks).nx = st.nx + ks.length := by
  cases st; simp [joined, lenL_eq]

theorem join_ok {R : Value → World → Prop} {ρ : Ren} {st : St} {w : World} {o : Out AV} (hh : HRs E B ρ st w) (ho : o.Holds (ValPost E B R ρ st w)) : (join st o).Holds (ValPost E B R ρ st w) := by
  unfold join
  split
  · exact ho
  · trivial
  · rename_i x y
    split
    · trivial
    · rename_i v0 s0 hf
      split
      · trivial
      · rename_i v ks hpk
        split
        · trivial
        · rename_i hpks
          split
          rename_i lg nn hwr
          obtain ⟨w1, s, ⟨ρ', w', x', hR, hv, hh', hev, hs⟩, hp, hlg⟩ := leaf_ok (.two x y) ([], st.nx) ho hpks
          rw [hwr] at hlg
          simp only at hlg

          unfold pack at hp
          split at hp
          · rename_i l hl
            split at hp
            · rename_i v2 ks2 e1 e2
              simp at hp
              obtain ⟨rfl, rfl⟩ := hp
              have hgood := spread_good _ _ _ _ (names_good w1 [] (GoodL.mk (fun p hp => by cases hp) List.nodup_nil)) hl
              obtain ⟨hlen, hkeep⟩ := keepAll_ok l ks2 e2
              have hsame : ∀ g, g < st.nx → ¬ g ∈ lg → s.hp.get g = st.hp.get g := fun g hg hn => hs.log.same g hg fun hh => hn (hlg g hh)

              have hle : ρ.le (ρ'.joined st.nx l) := by
                refine ⟨fun g m L hL => ?_, hev.le.tok⟩
                obtain ⟨c1, c2⟩ := hh.fresh g m L hL
                simp [Ren.joined, c1, c2, hev.le.loc g m L hL]
              have hold : ∀ g m L, (ρ'.joined st.nx l).loc g m = some L → (g < st.nx ∧ m < st.nx ∧ ρ'.loc g m = some L) ∨ (∃ i p, g = st.nx + i ∧ m = 0 ∧ l[i]? = some p ∧ ρ'.loc p.1 p.2 = some L) := by
                intro g m L hL
                simp only [Ren.joined] at hL
                by_cases c1 : g < st.nx
                · simp only [c1, if_true] at hL
                  by_cases c2 : m < st.nx
                  · simp only [c2, if_true] at hL; exact .inl ⟨c1, c2, hL⟩
                  · simp [c2] at hL
                · simp only [c1, if_false] at hL
                  by_cases c2 : m = 0
                  · simp only [c2, if_true] at hL
                    split at hL
                    · rename_i p ep; exact .inr ⟨g - st.nx, p, by omega, c2, ep, hL⟩
                    · cases hL
                  · simp [c2] at hL
              have hnew : ∀ i g m, l[i]? = some (g, m) → (ρ'.joined st.nx l).loc (st.nx + i) 0 = ρ'.loc g m := by
                intro i g m e
                have : ¬ st.nx + i < st.nx := by omega
                simp [Ren.joined, e, this]

              have hk : ∀ (i : Nat) (k : KO), ks2[i]? = some k → ∃ g m, l[i]? = some (g, m) ∧ Kept st.nx s.hp l g m k := by
                intro i k e
                have hi : i < l.length := by
                  rw [← hlen]
                  rcases Nat.lt_or_ge i ks2.length with c | c
                  · exact c
                  · rw [List.getElem?_eq_none c] at e; cases e
                obtain ⟨k', e', hk'⟩ := hkeep i l[i].1 l[i].2 (by simp [hi])
                rw [e] at e'; cases e'
                exact ⟨_, _, by simp [hi], hk'⟩
              have hkobj : ∀ (i : Nat) (k : KO) (g m : Nat), l[i]? = some (g, m) → Kept st.nx s.hp l g m k → (∃ o, s.hp.get g = some o ∧ m ∈ memsOf o) ∧ ObjR (ρ'.joined st.nx l) w' (st.nx + i) k.go := by
                intro i k g m e hkk
                cases hkk with
                | cells ty hw ms x cs h hx hc =>
                  obtain ⟨hxm, hxe⟩ := findM_mem hx
                  refine ⟨⟨_, h, by simp only [memsOf]; exact List.mem_map.2 ⟨x, hxm, hxe⟩⟩, ?_⟩
                  obtain ⟨_, L, c, fz, hL, hm⟩ := (hh'.obj g _ h).2.2.1 x hxm
                  have hcl := renL_length hc
                  refine ⟨fun y hy => ?_, fun y z hy hz _ _ _ _ _ => ?_, fun y z hy hz _ => ?_, fun y z hy hz _ => ?_⟩
                  · simp at hy; subst hy
                    refine ⟨by simp [lenL_eq], L, c, fz, ?_, hm.blk, by simpa [hcl] using hm.len, hm.lim, fun hfx => by simpa [hcl] using hm.fx hfx, fun j u hu => ?_, hm.soft⟩
                    · simp only; rw [hnew i g m e, ← hxe]; exact hL
                    · obtain ⟨a, ha, hra⟩ := renL_get hc j u hu
                      obtain ⟨y, hy, hvy⟩ := hm.val j a ha
                      exact ⟨y, hy, ren_ok hvy hra⟩
                  all_goals (simp at hy hz; subst hy; subst hz; first | rfl | exact .inl rfl)
                | map es es' clk hm h he =>
                  subst hm
                  refine ⟨⟨_, h, by simp [memsOf]⟩, ?_⟩
                  obtain ⟨L, fs, hL, hb, hes⟩ := (hh'.obj g _ h).2.2
                  exact ⟨L, fs, by rw [hnew i g 0 e]; exact hL, hb, renE_ok he hes⟩
              have hkmem : ∀ (k : KO), memsOf k.go = [0] := fun k => by cases k <;> simp [KO.go, memsOf]
              have hmems : ∀ (g : Nat) (o : GO), st.hp.get g = some o → ∀ m, m ∈ memsOf o → ∀ L, (ρ'.joined st.nx l).loc g m = some L → ρ'.loc g m = some L ∧ ρ.loc g m = some L := by
                intro g o hg m hm L hL
                obtain ⟨L0, hL0⟩ := (hh.obj g o hg).2.2.has hm
                have := hle.loc _ _ _ hL0
                rw [hL] at this; cases this
                exact ⟨hev.le.loc _ _ _ hL0, hL0⟩

              have hback : ∀ g o, (joined st lg ks2).hp.get g = some o → ObjR (ρ'.joined st.nx l) w' g o ∧ ∃ g' o', s.hp.get g' = some o' ∧ (g < st.nx → g' = g) ∧ (∀ i, g = st.nx + i → ∃ p, l[i]? = some p ∧ p.1 = g') ∧
                  ∀ m L, m ∈ memsOf o → (ρ'.joined st.nx l).loc g m = some L → ∃ m', m' ∈ memsOf o' ∧ ρ'.loc g' m' = some L := by
                intro g o hg
                rcases joined_get st lg ks2 (fun g h => hh.get_none h) g o hg with ⟨c1, c2, c3⟩ | ⟨i, k, rfl, ek, rfl⟩
                · have hs' := hsame g c1 c2
                  rw [c3] at hs'
                  refine ⟨ObjR.thru (ρ₁ := ρ) (ρ := ρ') (ρ₂ := ρ'.joined st.nx l) (fun g' m' L L₁ a b => ?_) rfl (hh.obj g o c3).2.2 (hh'.obj g o hs').2.2, g, o, hs', fun _ => rfl, fun i e => by omega, fun m L hm hL => ⟨m, hm, (hmems g o c3 m hm L hL).1⟩⟩
                  have h1 := hle.loc _ _ _ a
                  have h2 := hev.le.loc _ _ _ a
                  rw [b] at h2; cases h2; exact h1
                · obtain ⟨g', m', el, hkk⟩ := hk i k ek
                  obtain ⟨⟨o', ho', hm'⟩, hobj⟩ := hkobj i k g' m' el hkk
                  refine ⟨hobj, g', o', ho', fun h => by omega, fun j e => ?_, fun m L hm hL => ⟨m', hm', ?_⟩⟩
                  · have : j = i := by omega
                    subst this; exact ⟨_, el, rfl⟩
                  · rw [hkmem] at hm
                    simp at hm; subst hm
                    rw [hnew i g' m' el] at hL; exact hL
              refine ⟨ρ'.joined st.nx l, w', x', hR, ren_ok hv e1, ?_, ?_, joined_same st lg ks2⟩
              · unfold HRs
                rw [joined_nx]
                refine ⟨fun g m L hL => ?_, fun u => by show (ρ'.tok u).oneCell' = true; exact hh'.one u, Nat.le_trans hh.low (Nat.le_add_right _ _), hh'.base, fun g m L hg hL => ?_, fun g hg => ?_, fun g cs hg hcs => ?_, fun g o hg => ?_, fun g h o p hg hh2 hne m n L M hm hn hL hM => ?_⟩
                · have hlow := hh.low
                  have : NG = 64 := rfl
                  rcases hold g m L hL with ⟨c1, c2, _⟩ | ⟨i, p, rfl, rfl, ep, _⟩
                  · omega
                  · have hi : i < l.length := by
                      rcases Nat.lt_or_ge i l.length with c | c
                      · exact c
                      · rw [List.getElem?_eq_none c] at ep; cases ep
                    omega
                · rcases hold g m L hL with ⟨_, _, c3⟩ | ⟨i, p, rfl, rfl, ep, c3⟩
                  · exact hh'.above g m L hg c3
                  · exact hh'.above p.1 p.2 L (Nat.le_trans hh.low (hgood.lo p (List.mem_of_getElem? ep))) c3
                · obtain ⟨t, ht⟩ := hh.glob g hg; exact ⟨t, hle.loc _ _ _ ht⟩
                · obtain ⟨c, ty, fz, h1, h2, h3⟩ := hh.gcell g cs hg hcs
                  refine ⟨c, ty, fz, ?_, h2, fun i u e => let ⟨y, hy, hvy⟩ := h3 i u e; ⟨y, hy, hvy.mono hle⟩⟩
                  rw [hev.frame g (Nat.lt_of_lt_of_le h2 hh.base) ?_]; exact h1
                  rintro ⟨g', o', m', L', q1, q2, q3, q4⟩
                  have := hh.above g' m' L' (hh.obj g' o' q1).1 q3
                  omega
                · obtain ⟨q1, q2, q3⟩ := (joined_get st lg ks2 (fun g h => hh.get_none h) g o hg).elim (fun ⟨c1, c2, c3⟩ => (⟨(hh.obj g o c3).1, by omega, trivial⟩ : NG ≤ g ∧ g < st.nx + ks2.length ∧ True)) (fun ⟨i, k, e1, e2, e3⟩ => by
                    have hi : i < ks2.length := by
                      rcases Nat.lt_or_ge i ks2.length with c | c
                      · exact c
                      · rw [List.getElem?_eq_none c] at e2; cases e2
                    have := hh.low
                    exact ⟨by omega, by omega, trivial⟩)
                  exact ⟨q1, q2, (hback g o hg).1⟩
                · obtain ⟨_, g', o', a1, a2, a3, a4⟩ := hback g o hg
                  obtain ⟨_, h', p', b1, b2, b3, b4⟩ := hback h p hh2
                  obtain ⟨m', a5, a6⟩ := a4 m L hm hL
                  obtain ⟨n', b5, b6⟩ := b4 n M hn hM
                  refine hh'.sep g' h' o' p' a1 b1 (fun e => hne ?_) m' n' L M a5 b5 a6 b6
                  subst e
                  rcases Nat.lt_or_ge g st.nx with cg | cg <;> rcases Nat.lt_or_ge h st.nx with ch | ch
                  · rw [← a2 cg, ← b2 ch]
                  · obtain ⟨p, ep, e⟩ := b3 (h - st.nx) (by omega)
                    have := hgood.lo p (List.mem_of_getElem? ep)
                    have := a2 cg
                    omega
                  · obtain ⟨p, ep, e⟩ := a3 (g - st.nx) (by omega)
                    have := hgood.lo p (List.mem_of_getElem? ep)
                    have := b2 ch
                    omega
                  · obtain ⟨p, ep, e⟩ := a3 (g - st.nx) (by omega)
                    obtain ⟨q, eq, e'⟩ := b3 (h - st.nx) (by omega)
                    have hi : g - st.nx < (l.map Prod.fst).length := by
                      rw [List.length_map]
                      rcases Nat.lt_or_ge (g - st.nx) l.length with c | c
                      · exact c
                      · rw [List.getElem?_eq_none c] at ep; cases ep
                    have := (List.getElem?_inj (l := l.map Prod.fst) (i := g - st.nx) (j := h - st.nx) hi hgood.nd).1 (by simp [ep, eq, e, e'])
                    omega
              · refine ⟨hle, by rw [joined_nx]; exact Nat.le_add_right _ _, fun g m L hL => ?_, hev.os, hev.tape, hev.output, hev.size, hev.frame, fun r => ?_⟩
                · rcases hold g m L hL with ⟨c1, c2, c3⟩ | ⟨i, p, rfl, rfl, ep, c3⟩
                  · rcases hev.only g m L c3 with c | c | c
                    · exact .inl c
                    · exact .inr (.inl c)
                    · exact .inr (.inr c)
                  · exact .inr (.inl (by omega))
                · rintro ⟨g, o, m, L, hg, hm, hL, rfl⟩
                  obtain ⟨_, g', o', a1, a2, a3, a4⟩ := hback g o hg
                  obtain ⟨m', a5, a6⟩ := a4 m L hm hL
                  exact hev.img L.b ⟨g', o', m', L, a1, a5, a6, rfl⟩
            · cases hp
          · cases hp

end
end Go.Proofs.YtcedalofcekdkaaGreatDoor.Ex
end

section
namespace Go.Proofs.YtcedalofcekdkaaGreatDoor.Ex
section
variable {P : Program} {E : Env} {B : Nat} {b : Frame} {k : List Item} {cs : List Frame} {ρ : Ren} {st st' : St} {a : Act} {w : World} {self : Self} {ro : Option Nat}

theorem assignPs_ok {ntm : Nat} : ∀ (ps : List Nat) (args : List AV) (xs : List Value) (tm tm' : Tr AV) (tmps : Array Value), assignPs ntm tm ps args = some tm' → VRL ρ args xs → TR ρ ntm tm tmps →
    ps.length = xs.length ∧ TR ρ ntm tm' ((ps.zip xs).foldl (fun tmps p => tmps.setIfInBounds p.1 p.2) tmps)
  | [], [], _, tm, tm', tmps, h, .nil, ht => by simp [assignPs] at h; subst h; exact ⟨rfl, ht⟩
  | [], _ :: _, _, _, _, _, h, _, _ => by simp [assignPs] at h
  | _ :: _, [], _, _, _, _, h, _, _ => by simp [assignPs] at h
  | t :: ps, v :: args, _, tm, tm', tmps, h, .cons _ x _ xs hv hxs, ht => by
    simp only [assignPs] at h
    cases hb : Nat.blt t ntm with
    | false => simp [hb] at h
    | true =>
      simp only [hb] at h
      have hlt : t < ntm := by simp [Nat.blt] at hb; omega
      cases e : Tr.put (some v) (pathOf t) tm with
      | lf => simp [e] at h
      | nd p q r =>
        simp only [e] at h
        obtain ⟨h1, h2⟩ := assignPs_ok ps args xs _ tm' (tmps.setIfInBounds t x) h hxs ⟨by simpa using ht.size, fun n u hn => by
          rw [← e, Tr.get_put] at hn
          have hsz := ht.size
          by_cases c : n = t
          · subst c; simp at hn; subst hn
            exact ⟨x, by simp [Array.getElem?_setIfInBounds]; omega, hv⟩
          · simp only [c, if_false] at hn
            obtain ⟨y, hy, hvy⟩ := ht.val n u hn
            exact ⟨y, by rw [Array.getElem?_setIfInBounds, if_neg (fun e => c e.symm)]; exact hy, hvy⟩⟩
        exact ⟨by simp [h1], h2⟩

theorem run_turnLoop {l : Nat} {r : Loop} (hb : w.heap[l]? = some (.loop r)) (r' : Loop) : l < w.heap.size ∧ ({ w with heap := w.heap.setIfInBounds l (.loop r') } : World).heap[l]? = some (.loop r') := by
  have hlt : l < w.heap.size := by
    rcases Nat.lt_or_ge l w.heap.size with q | q
    · exact q
    · rw [Array.getElem?_eq_none q] at hb; cases hb
  exact ⟨hlt, by simp [Array.getElem?_setIfInBounds, hlt]⟩

theorem yield_ok (hS : SelfOK P E B self) {g : Nat} {L : Loc} {args : List AV} {xs : List Value} {fr : Frame} (hh : HRs E B ρ st w) (hL : ρ.loc g 0 = some L) (hx : VRL ρ args xs) :
    (yieldX self g args st).Holds (InvPost P E B (.fn (.yield L.b) #[]) xs.toArray fr cs ρ st w) := by
  unfold yieldX
  split
  · rename_i z0 z1 ntm tm ps asg body d eg
    rw [getG_eq] at eg
    obtain ⟨L', M, f, tmps, hL', hM, hb, ht⟩ := (hh.obj g _ eg).2.2
    rw [hL] at hL'; cases hL'
    split
    · trivial
    · rename_i tm' ea
      obtain ⟨hlen, ht'⟩ := assignPs_ok ps args xs tm tm' tmps ea hx ht
      generalize htm : (ps.zip xs).foldl (fun tmps p => tmps.setIfInBounds p.1 p.2) tmps = tmps' at ht'
      have hinv : (invoke (.fn (.yield L.b) #[]) xs.toArray).run P w = .ok (.round L.b f tmps' asg body) w := by
        have hz : (ps.toArray.zip xs.toArray).foldl (fun tmps (x : Nat × Value) => tmps.setIfInBounds x.1 x.2) tmps = tmps' := by
          rw [← htm, List.zip_toArray, List.foldl_toArray]
        simp [invoke, Instr.yield, Instr.getLoop, run_getMap hb, hlen]
        simpa using hz
      generalize hb0 : Frame.round L.b f tmps' asg body .normal = b0
      have hro : b0.roundOf = some L.b := by rw [← hb0]; rfl
      have hk : b0.kind = .normal := by rw [← hb0]; rfl
      have hat : b0 = b0.atR { tmps := tmps', defers := [] } [.code asg, .beginRound, .code body] := by rw [← hb0]; rfl
      obtain ⟨q1, q2, q3, q4, q5⟩ := enterSt_eq st ntm tm'
      have hi0 : Inv E B ρ (enterSt st ntm tm') { tmps := tmps', defers := [] } w :=
        ⟨by rw [q1, q2]; exact ht', ⟨[], rfl, by rw [q5], fun i g b h => by rw [q5] at h; simp at h⟩, by rw [q3, q4]; exact hh⟩
      refine Out.Holds.mono (join_ok (R := fun x w'' => Steps P (lone b0 (fr :: cs) w) (lone (fr.finish x) cs w'')) hh ?_) ?_
      · refine (hS asg (some g) b0 [.beginRound, .code body] (fr :: cs) ρ _ _ w ⟨L, hL, hro⟩ hi0).bind ?_
        rintro e s ⟨ρ1, a1, w1, σ, h1, h2, h3, h4, l1⟩
        rw [← hat] at h1
        cases e with
        | exit id => trivial
        | ret => trivial
        | normal =>
          simp only [Stands] at h2; subst h2
          simp only
          split
          · rename_i p1 fn1 ntm1 tm1 ps1 asg1 body1 d1 eg1
            rw [getG_eq] at eg1
            split
            · trivial
            · rename_i s2 es2
              obtain ⟨L1, M1, f1, tmps1, hL1, hM1, hb1, ht1⟩ := (h3.hr.obj g _ eg1).2.2
              have := h4.le.loc _ _ _ hL
              rw [this] at hL1; cases hL1
              obtain ⟨k1, k2, k3⟩ := setG_eq es2
              obtain ⟨c1, c2⟩ := run_turnLoop hb1 { state := .busy, pending := p1, fn := f1, tmps := tmps1, params := ps1.toArray, assign := asg1, body := body1, defers := M1.b }
              generalize hw2 : ({ w1 with heap := w1.heap.setIfInBounds L.b (.loop { state := .busy, pending := p1, fn := f1, tmps := tmps1, params := ps1.toArray, assign := asg1, body := body1, defers := M1.b }) } : World) = w2 at c2
              have hbegin : (Instr.beginRound L.b).run P w1 = .ok () w2 := by
                simp [Instr.beginRound, Instr.getLoop, run_getMap hb1, run_setMap hb1, LS.st, hw2]
              have hother : ∀ r, r ≠ L.b → w2.heap[r]? = w1.heap[r]? := fun r hr => by
                rw [← hw2]; simp only [Array.getElem?_setIfInBounds]; rw [if_neg (fun e => hr e.symm)]
              obtain ⟨j1, j2⟩ := HR.turn (w' := w2) (o' := .loop .busy p1 fn1 ntm1 tm1 ps1 asg1 body1 d1) h3.hr eg1 (by rw [← hw2]) (by rw [← hw2]) (by rw [← hw2]) (by rw [← hw2]; simp)
                (fun r _ hn => hother r fun e => hn ⟨_, 0, L, eg1, by simp [memsOf], this, e.symm⟩) (fun m hm => hm) ⟨L, M1, f1, tmps1, this, hM1, by simpa [LS.st] using c2, ht1⟩
              have hi2 : Inv E B ρ1 s2 a1 w2 := ⟨by rw [k1.ntm, k1.tm]; exact h3.tr, by rw [k1.df]; exact h3.df, by rw [k2, k3]; exact j1⟩
              have hev2 : Evs ρ1 s w1 ρ1 s2 w2 := by unfold Evs; rw [k2, k3]; exact j2
              refine (hS body (some g) b0 [] (fr :: cs) ρ1 s2 a1 w2 ⟨L, this, hro⟩ hi2).bind ?_
              rintro e' s3 ⟨ρ3, a3, w3, σ3, g1, g2, g3, g4, l3⟩
              have hsteps : Steps P (lone b0 (fr :: cs) w) σ3 := (h1.trans (.one (stepR_beginRound hro hbegin))).trans g1
              have hL3 := g4.le.loc _ _ _ this

              have back : ∀ (j : Option Code) (o : Out AV),
                  o = (match s3.df, s3.getG g with
                    | [], some (.loop _ _ fn2 ntm2 tm2 ps2 asg2 body2 dfs2) => match s3.setG g (.loop (LS.after j) j fn2 ntm2 tm2 ps2 asg2 body2 dfs2) with
                      | none => .no "yield set"
                      | some s => .one (.bool j.isNone) (backSt st s)
                    | _, _ => .no "yield deferred") →
                  (∀ v w4, (Instr.endRound L.b j).run P w3 = .ok v w4 → Steps P (lone b0 (fr :: cs) w) (lone (fr.finish v) cs w4)) →
                  o.Holds (ValPost E B (fun x w'' => Steps P (lone b0 (fr :: cs) w) (lone (fr.finish x) cs w'')) ρ st w) := by
                intro j o ho hst
                subst ho
                split
                · rename_i z2 z3 fn2 ntm2 tm2 ps2 asg2 body2 d2 edf eg3
                  rw [getG_eq] at eg3
                  split
                  · trivial
                  · rename_i s4 es4
                    obtain ⟨L3, M3, f3, tmps3, hL3', hM3, hb3, ht3⟩ := (g3.hr.obj g _ eg3).2.2
                    rw [hL3] at hL3'; cases hL3'
                    obtain ⟨m1, m2, m3⟩ := setG_eq es4
                    obtain ⟨c3, c4⟩ := run_turnLoop hb3 { state := if j.isNone then .ready else .done, pending := j, fn := f3, tmps := tmps3, params := ps2.toArray, assign := asg2, body := body2, defers := M3.b }
                    generalize hw4 : ({ w3 with heap := w3.heap.setIfInBounds L.b (.loop { state := if j.isNone then .ready else .done, pending := j, fn := f3, tmps := tmps3, params := ps2.toArray, assign := asg2, body := body2, defers := M3.b }) } : World) = w4 at c4
                    have hendr : (Instr.endRound L.b j).run P w3 = .ok (.bool j.isNone) w4 := by
                      simp [Instr.endRound, Instr.getLoop, run_getMap hb3, run_setMap hb3]
                      rw [← hw4]; simp
                    have hother4 : ∀ r, r ≠ L.b → w4.heap[r]? = w3.heap[r]? := fun r hr => by
                      rw [← hw4]; simp only [Array.getElem?_setIfInBounds]; rw [if_neg (fun e => hr e.symm)]
                    have hstate : (LS.after j).st = if j.isNone then .ready else .done := by cases j <;> rfl
                    obtain ⟨n1, n2⟩ := HR.turn (w' := w4) (o' := .loop (LS.after j) j fn2 ntm2 tm2 ps2 asg2 body2 d2) g3.hr eg3 (by rw [← hw4]) (by rw [← hw4]) (by rw [← hw4]) (by rw [← hw4]; simp)
                      (fun r _ hn => hother4 r fun e => hn ⟨_, 0, L, eg3, by simp [memsOf], hL3, e.symm⟩) (fun m hm => hm) ⟨L, M3, f3, tmps3, hL3, hM3, by rw [hstate]; exact c4, ht3⟩
                    obtain ⟨b1, b2, b3⟩ := backSt_eq st s4 (((l1.trans k1.log).trans l3).trans m1.log)
                    refine ⟨ρ3, w4, .bool j.isNone, hst _ _ hendr, .bool _, ?_, ?_, b1⟩
                    · unfold HRs; rw [b2, b3, m2, m3]; exact n1
                    · unfold Evs; rw [b2, b3, m2, m3]
                      have := (h4.trans hev2).trans g4
                      unfold Evs at this
                      rw [q3, q4] at this
                      exact this.trans n2
                · trivial
              cases e' with
              | normal =>
                simp only [Stands] at g2; subst g2
                exact back none _ rfl fun v w4 hr => hsteps.trans (.one (stepR_round_end hro hk hr))
              | ret =>
                obtain ⟨k', rfl⟩ := g2
                exact back (some .ret) _ rfl fun v w4 hr => hsteps.trans (.one (stepR_round_ret hro hk hr))
              | exit id =>
                obtain ⟨k', hx', rfl⟩ := g2
                exact back (some (.exit id)) _ rfl fun v w4 hr => hsteps.trans (.one (stepR_round_exit hro hk (hx'.trans (by simp [exitTo])) hr))
          · trivial
      · rintro v s ⟨ρ', w', x, h1, h2, h3, h4, h5⟩
        exact ⟨ρ', w', x, h2, h3, h4, h5, .inr (.inr ⟨L.b, f, tmps', asg, body, hinv, by rw [hb0]; exact h1⟩)⟩
  · trivial

end
end Go.Proofs.YtcedalofcekdkaaGreatDoor.Ex
end

section
namespace Go.Proofs.YtcedalofcekdkaaGreatDoor.Ex

theorem bitX_eq (m i : Nat) : bitX m i = m.testBit i := by
  unfold bitX Nat.testBit
  show Nat.beq (1 &&& (m >>> i)) 1 = _
  rw [Nat.one_and_eq_mod_two]
  rcases Nat.mod_two_eq_zero_or_one (m >>> i) with h | h <;> rw [h] <;> rfl

theorem bindsX_eq (e : Edge) : bindsX e = Region.binds .any e := by
  unfold bindsX Region.binds
  cases e.ground <;> first | rfl | decide

theorem memN_eq (x : Nat) (l : List Nat) : memN x l = true ↔ x ∈ l := by
  induction l with
  | nil => simp [memN]
  | cons y l ih =>
    simp only [memN]
    cases h : Nat.beq x y with
    | true => have := Nat.eq_of_beq_eq_true h; simp [this]
    | false =>
      have : x ≠ y := fun e => by rw [e] at h; simp at h
      simp [ih, this]

theorem layG_get (o : Tr GO) : ∀ (l : List Nat) (hp : Tr GO) (g : Nat), (layG o l hp).get g = if g ∈ l then o.get g else hp.get g
  | [], hp, g => by simp [layG]
  | a :: l, hp, g => by
    have h : layG o (a :: l) hp = layG o l (Tr.put (o.get a) (pathOf a) hp) := by
      simp only [layG]; cases Tr.put (o.get a) (pathOf a) hp <;> rfl
    rw [h, layG_get o l, Tr.get_put]
    by_cases h1 : g ∈ l
    · simp [h1]
    · by_cases h2 : g = a
      · subst h2; simp
      · simp [h1, h2]

theorem dropG_get : ∀ (l : List Nat) (hp : Tr GO) (g : Nat) (o : GO), (dropG l hp).get g = some o → hp.get g = some o
  | [], hp, g, o, h => h
  | a :: l, hp, g, o, h => by
    have e : dropG (a :: l) hp = dropG l (Tr.put none (pathOf a) hp) := by
      simp only [dropG]; cases Tr.put none (pathOf a) hp <;> rfl
    rw [e] at h
    have := dropG_get l _ g o h
    rw [Tr.get_put] at this
    by_cases c : g = a
    · simp [c] at this
    · simpa [c] using this

theorem dropAllG_get : ∀ (l : List Rec) (hp : Tr GO) (g : Nat) (o : GO), (dropAllG l hp).get g = some o → hp.get g = some o
  | [], hp, g, o, h => h
  | r :: l, hp, g, o, h => dropG_get _ _ _ _ (dropAllG_get l _ g o h)

theorem putT_get (tm o : Tr AV) (d : Option Nat) (t : Nat) : (putT tm o d).get t = if d = some t then o.get t else tm.get t := by
  cases d with
  | none => simp [putT]
  | some d =>
    have h : putT tm o (some d) = Tr.put (o.get d) (pathOf d) tm := by
      simp only [putT]; cases Tr.put (o.get d) (pathOf d) tm <;> rfl
    rw [h, Tr.get_put]
    by_cases c : t = d
    · subst c; simp
    · have : d ≠ t := fun e => c e.symm
      simp [c, this]

theorem miniT_get (free : List Rec) (tm : Tr AV) : ∀ (l : List Nat) (r : Tr AV) (t : Nat) (v : AV), (miniT free tm l r).get t = some v → tm.get t = some v ∨ r.get t = some v
  | [], r, t, v, h => .inr h
  | a :: l, r, t, v, h => by
    have e : miniT free tm (a :: l) r = if dstIn a free then miniT free tm l r else miniT free tm l (Tr.put (tm.get a) (pathOf a) r) := by
      simp only [miniT]
      cases dstIn a free with
      | true => rfl
      | false => simp only; cases Tr.put (tm.get a) (pathOf a) r <;> rfl
    rw [e] at h
    split at h
    · exact miniT_get free tm l r t v h
    · rcases miniT_get free tm l _ t v h with h | h
      · exact .inl h
      · rw [Tr.get_put] at h
        by_cases c : t = a
        · subst c; simp at h; exact .inl h
        · simp only [c, if_false] at h; exact .inr h

theorem noneIn_ok {hp : Tr GO} : ∀ {l : List Nat}, noneIn hp l = true → ∀ g, g ∈ l → hp.get g = none
  | [], _, g, hg => by cases hg
  | a :: l, h, g, hg => by
    simp only [noneIn] at h
    split at h
    · rename_i e
      rcases List.mem_cons.1 hg with rfl | hg
      · exact e
      · exact noneIn_ok h g hg
    · cases h

theorem noneOf_ok {m : List Nat} : ∀ {l : List Nat}, noneOf m l = true → ∀ g, g ∈ l → ¬ g ∈ m
  | [], _, g, hg => by cases hg
  | a :: l, h, g, hg => by
    simp only [noneOf] at h
    split at h
    · cases h
    · rename_i e
      rcases List.mem_cons.1 hg with rfl | hg
      · exact fun hm => by rw [(memN_eq g m).2 hm] at e; cases e
      · exact noneOf_ok h g hg

structure Apart (r q : Rec) : Prop where
  t1 : ∀ d, q.dst = some d → r.m.tm.get d = none
  t2 : ∀ d, r.dst = some d → q.m.tm.get d = none
  d : ∀ d, r.dst = some d → q.dst ≠ some d
  h1 : ∀ g, g ∈ q.turns → r.m.hp.get g = none
  h2 : ∀ g, g ∈ r.turns → q.m.hp.get g = none
  w : ∀ g, g ∈ q.turns → ¬ g ∈ r.turns

theorem tmFree_ok {tm : Tr AV} {o : Option Nat} (h : tmFree tm o = true) : ∀ d, o = some d → tm.get d = none := by
  intro d e
  subst e
  simp only [tmFree] at h
  split at h
  · rename_i e; exact e
  · cases h

theorem tmOf_eq (s : St) : s.tmOf = s.tm := by cases s; rfl
theorem hpOf_eq (s : St) : s.hpOf = s.hp := by cases s; rfl
theorem nxOf_eq (s : St) : s.nxOf = s.nx := by cases s; rfl

theorem apartX_ok {r q : Rec} (h : apartX r q = true) : Apart r q := by
  simp only [apartX, Bool.and_eq_true, tmOf_eq, hpOf_eq] at h
  obtain ⟨h1, h2, h3, h4, h5, h6⟩ := h
  refine ⟨tmFree_ok h1, tmFree_ok h2, fun d e e' => ?_, noneIn_ok h4, noneIn_ok h5, noneOf_ok h6⟩
  rw [e, e'] at h3
  simp [dstNe] at h3

theorem allApart_ok {r : Rec} : ∀ {l : List Rec}, allApart r l = true → ∀ q, q ∈ l → Apart r q
  | [], _, q, hq => by cases hq
  | a :: l, h, q, hq => by
    simp only [allApart] at h
    split at h
    · rename_i e
      rcases List.mem_cons.1 hq with rfl | hq
      · exact apartX_ok e
      · exact allApart_ok h q hq
    · cases h

theorem freeOf_mem {b : Nat} : ∀ {l : List Rec} {q : Rec}, q ∈ l → bitX b q.i = true ∨ q ∈ freeOf b l
  | a :: l, q, hq => by
    have e : freeOf b (a :: l) = if bitX b a.i then freeOf b l else a :: freeOf b l := by
      simp only [freeOf]
      cases bitX b a.i with
      | true => rfl
      | false => simp only; cases freeOf b l <;> rfl
    rw [e]
    rcases List.mem_cons.1 hq with rfl | hq
    · cases h : bitX b q.i with
      | true => exact .inl rfl
      | false => exact .inr (by simp)
    · rcases freeOf_mem (b := b) hq with h | h
      · exact .inl h
      · right
        split
        · exact h
        · exact List.mem_cons_of_mem _ h

theorem noneTurns_ok : ∀ {l : List Rec}, noneTurns l = true → ∀ r, r ∈ l → r.turns = []
  | [], _, r, hr => by cases hr
  | a :: l, h, r, hr => by
    simp only [noneTurns] at h
    split at h
    · rename_i e
      rcases List.mem_cons.1 hr with rfl | hr
      · exact e
      · exact noneTurns_ok h r hr
    · cases h

theorem fromN_mem : ∀ (n a g : Nat), g ∈ fromN a n ↔ a ≤ g ∧ g < a + n
  | 0, a, g => by simp [fromN]
  | n + 1, a, g => by
    simp only [fromN, List.mem_cons, fromN_mem n (a + 1) g]
    omega

theorem turns_mem (r : Rec) (g : Nat) (h : r.m.nx ≤ r.o.nx) : g ∈ r.turns ↔ g ∈ r.o.lg ∨ (r.m.nx ≤ g ∧ g < r.o.nx) := by
  obtain ⟨i, dst, b, m, o⟩ := r
  obtain ⟨_, _, _, nx, _, _⟩ := m
  obtain ⟨_, _, _, nx', lg, _⟩ := o
  simp only at h
  simp only [Rec.turns, natsApp_eq, List.mem_append, fromN_mem]
  have : nx + (nx' - nx) = nx' := by omega
  rw [this]

noncomputable def hpD (hp0 : Tr GO) (p : Nat → Bool) : List Rec → Tr GO
  | [] => hp0
  | r :: rs => if p r.i then layG r.o.hp r.turns (hpD hp0 p rs) else hpD hp0 p rs

noncomputable def tmD (tm0 : Tr AV) (p : Nat → Bool) : List Rec → Tr AV
  | [] => tm0
  | r :: rs => if p r.i then putT (tmD tm0 p rs) r.o.tm r.dst else tmD tm0 p rs

theorem hpD_get (hp0 : Tr GO) (p : Nat → Bool) (g : Nat) : ∀ rs, (hpD hp0 p rs).get g = match rs.find? (fun r => p r.i && memN g r.turns) with | some r => r.o.hp.get g | none => hp0.get g
  | [] => rfl
  | r :: rs => by
    simp only [hpD, List.find?_cons]
    cases hp : p r.i with
    | false => simp [hpD_get hp0 p g rs]
    | true =>
      simp only [if_true, Bool.true_and, layG_get]
      cases hm : memN g r.turns with
      | true => simp [(memN_eq g r.turns).1 hm]
      | false =>
        have : ¬ g ∈ r.turns := fun e => by rw [(memN_eq g r.turns).2 e] at hm; cases hm
        simp [this, hpD_get hp0 p g rs]

theorem tmD_get (tm0 : Tr AV) (p : Nat → Bool) (t : Nat) : ∀ rs, (tmD tm0 p rs).get t = match rs.find? (fun r => p r.i && decide (r.dst = some t)) with | some r => r.o.tm.get t | none => tm0.get t
  | [] => rfl
  | r :: rs => by
    simp only [tmD, List.find?_cons]
    cases hp : p r.i with
    | false => simp [tmD_get tm0 p t rs]
    | true =>
      simp only [if_true, Bool.true_and, putT_get]
      by_cases h : r.dst = some t
      · simp [h]
      · simp [h, tmD_get tm0 p t rs]

theorem find_congr {α : Type} {p q : α → Bool} : ∀ {l : List α}, (∀ a, a ∈ l → p a = q a) → l.find? p = l.find? q
  | [], _ => rfl
  | a :: l, h => by
    simp only [List.find?_cons, h a (by simp)]
    rw [find_congr fun b hb => h b (by simp [hb])]

theorem find_last {p : Rec → Bool} : ∀ {l : List Rec} {r : Rec}, l.Pairwise (fun a b => b.i < a.i) → r ∈ l → p r = true → (∀ q, q ∈ l → r.i < q.i → p q = false) → l.find? p = some r
  | [], r, _, h, _, _ => by cases h
  | a :: l, r, hs, hr, hp, hq => by
    rw [List.pairwise_cons] at hs
    rcases List.mem_cons.1 hr with rfl | hr
    · simp [hp]
    · have := hq a (by simp) (hs.1 r hr)
      simp only [List.find?_cons, this]
      exact find_last hs.2 hr hp fun q hql => hq q (by simp [hql])

theorem hpD_congr {hp0 : Tr GO} {p q : Nat → Bool} {g : Nat} {rs : List Rec} (h : ∀ r, r ∈ rs → g ∈ r.turns → p r.i = q r.i) : (hpD hp0 p rs).get g = (hpD hp0 q rs).get g := by
  have e : rs.find? (fun r : Rec => p r.i && memN g r.turns) = rs.find? (fun r : Rec => q r.i && memN g r.turns) := find_congr fun r hr => by
    cases hm : memN g r.turns with
    | true => simp [h r hr ((memN_eq _ _).1 hm)]
    | false => simp
  rw [hpD_get, hpD_get, e]

theorem tmD_congr {tm0 : Tr AV} {p q : Nat → Bool} {t : Nat} {rs : List Rec} (h : ∀ r, r ∈ rs → r.dst = some t → p r.i = q r.i) : (tmD tm0 p rs).get t = (tmD tm0 q rs).get t := by
  have e : rs.find? (fun r : Rec => p r.i && decide (r.dst = some t)) = rs.find? (fun r : Rec => q r.i && decide (r.dst = some t)) := find_congr fun r hr => by
    by_cases hm : r.dst = some t
    · simp [h r hr hm]
    · simp [hm]
  rw [tmD_get, tmD_get, e]

theorem Ev.sub {ρ ρ' : Ren} {hp hp' hp2 : Tr GO} {nx nx' : Nat} {w w' : World} (h : Ev ρ hp nx w ρ' hp' nx' w') (hs : ∀ g o, hp2.get g = some o → hp'.get g = some o) : Ev ρ hp nx w ρ' hp2 nx' w' :=
  ⟨h.le, h.nxle, h.only, h.os, h.tape, h.output, h.size, h.frame, fun r ⟨g, o, m, L, h1, h2, h3, h4⟩ => h.img r ⟨g, o, m, L, hs g o h1, h2, h3, h4⟩⟩

end Go.Proofs.YtcedalofcekdkaaGreatDoor.Ex
end
