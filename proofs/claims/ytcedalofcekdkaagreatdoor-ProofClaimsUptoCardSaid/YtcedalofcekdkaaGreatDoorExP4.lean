/- The executor is sound, part 5: what it answers is what the machine does. -/
import Derived.Test.YtcedalofcekdkaaGreatDoorExP3
set_option linter.unusedSimpArgs false
set_option linter.unusedVariables false
section
namespace Go.Proofs.YtcedalofcekdkaaGreatDoor.Ex

def Closed (ops : Array Oper) (D : Nat → Prop) : Prop := ∀ j o e, ops[j]? = some o → e ∈ o.after → bindsX e = true → D j → D e.on

def MaskOK (ops : Array Oper) (j mk : Nat) : Prop := ∀ k, bitX mk k = true → k < j ∧ ∀ D, Closed ops D → D j → D k

theorem bit_or (a b k : Nat) : bitX (Nat.lor a b) k = (bitX a k || bitX b k) := by
  rw [bitX_eq, bitX_eq, bitX_eq]; exact Nat.testBit_or a b k

theorem bit_one (n k : Nat) (h : bitX (Nat.shiftLeft 1 n) k = true) : k = n := by
  rw [bitX_eq] at h
  have h2 : (1 <<< n).testBit k = true := h
  rw [Nat.testBit_shiftLeft] at h2
  simp only [Bool.and_eq_true, decide_eq_true_eq] at h2
  have := Nat.testBit_one_eq_true_iff_self_eq_zero.1 h2.2
  omega

theorem befX_ok {ops : Array Oper} {i : Nat} {masks : List Nat} (hlen : masks.length = i) (hm : ∀ j mk, masks[j]? = some mk → MaskOK ops j mk) :
    ∀ (es : List Edge) (acc r : Nat), befX masks es acc = some r → MaskOK ops i acc → (∀ e, e ∈ es → bindsX e = true → ∀ D, Closed ops D → D i → D e.on) →
      MaskOK ops i r ∧ ∀ e, e ∈ es → bindsX e = true → e.on < i
  | [], acc, r, h, ha, _ => by simp [befX] at h; subst h; exact ⟨ha, fun e he => by cases he⟩
  | e :: es, acc, r, h, ha, hd => by
    simp only [befX] at h
    split at h
    · rename_i hb
      obtain ⟨h1, h2⟩ := befX_ok hlen hm es acc r h ha fun e he => hd e (by simp [he])
      refine ⟨h1, fun e' he' hb' => ?_⟩
      rcases List.mem_cons.1 he' with rfl | he'
      · rw [hb] at hb'; cases hb'
      · exact h2 e' he' hb'
    · rename_i hb
      split at h
      · cases h
      · rename_i mk hmk
        rw [nth_eq] at hmk
        have hlt : e.on < i := by
          rcases Nat.lt_or_ge e.on masks.length with c | c
          · omega
          · rw [List.getElem?_eq_none c] at hmk; cases hmk
        have hde := hd e (by simp) hb
        have hacc : MaskOK ops i (Nat.lor (Nat.lor acc mk) (Nat.shiftLeft 1 e.on)) := by
          intro k hk
          rw [bit_or, bit_or, Bool.or_eq_true, Bool.or_eq_true] at hk
          rcases hk with (hk | hk) | hk
          · exact ha k hk
          · obtain ⟨a, b⟩ := hm e.on mk hmk k hk
            exact ⟨by omega, fun D hD hi => b D hD (hde D hD hi)⟩
          · have := bit_one _ _ hk
            subst this
            exact ⟨hlt, hde⟩
        obtain ⟨h1, h2⟩ := befX_ok hlen hm es _ r h hacc fun e he => hd e (by simp [he])
        refine ⟨h1, fun e' he' hb' => ?_⟩
        rcases List.mem_cons.1 he' with rfl | he'
        · exact hlt
        · exact h2 e' he' hb'

section
variable {P : Program} {E : Env} {B : Nat} {self : Self} {ops : Array Oper} {st : St}

inductive Good (E : Env) (self : Self) (ops : Array Oper) (st : St) : List Rec → St → List Nat → Prop
  | nil : Good E self ops st [] st []
  | cons (rs : List Rec) (C : St) (masks : List Nat) (o : Oper) (bef : Nat) (s : St) (r : Rec) (h : Good E self ops st rs C masks) (ho : ops[rs.length]? = some o) (hb : befX masks o.after.toList 0 = some bef)
      (hr : r = ⟨rs.length, o.dst, bef, miniX ops o (freeOf bef rs) C, s⟩) (hrun : run1X E self ops o (miniX ops o (freeOf bef rs) C) = .one () s) (ha : allApart r (freeOf bef rs) = true) :
      Good E self ops st (r :: rs) (layX C (isWhole o.op (freeOf bef rs)) r) (snocL masks bef)

theorem drawX_two : ∀ (l : List Oper) (i : Nat) (masks : List Nat) (recs : List Rec) (C : St) (x y : Out Unit), drawX E self ops l i masks recs C = .two x y → False
  | [], i, masks, recs, C, x, y, h => by simp [drawX] at h
  | o :: l, i, masks, recs, C, x, y, h => by
    simp only [drawX] at h
    split at h
    · cases h
    · split at h
      · split at h
        · cases h
        · exact drawX_two l _ _ _ _ _ _ h
      · cases h
      · cases h

theorem drawX_good : ∀ (l : List Oper) (i : Nat) (masks : List Nat) (recs : List Rec) (C C' : St), drawX E self ops l i masks recs C = .one () C' → Good E self ops st recs C masks → i = recs.length →
    (∀ n, n < l.length → ops[i + n]? = l[n]?) → ∃ recs' masks', Good E self ops st recs' C' masks' ∧ recs'.length = i + l.length
  | [], i, masks, recs, C, C', h, hg, hi, _ => by simp [drawX] at h; subst h; exact ⟨recs, masks, hg, by simp [hi]⟩
  | o :: l, i, masks, recs, C, C', h, hg, hi, hl => by
    simp only [drawX] at h
    split at h
    · cases h
    · rename_i bef hb
      split at h
      · rename_i u s hrun
        split at h
        · cases h
        · rename_i hap
          simp only [Bool.and_eq_true] at hap
          have h0 : ops[recs.length]? = some o := by rw [← hi]; simpa using hl 0 (by simp)
          subst hi
          have hg' := Good.cons recs C masks o bef s _ hg h0 hb rfl hrun hap.2
          obtain ⟨recs', masks', h1, h2⟩ := drawX_good l _ _ _ _ C' h hg' (by simp) fun n hn => by
            have := hl (n + 1) (by simp; omega)
            simpa [Nat.add_assoc, Nat.add_comm 1 n] using this
          exact ⟨recs', masks', h1, by simp at h2 ⊢; omega⟩
      · cases h
      · cases h

theorem miniX_eq (o : Oper) (free : List Rec) (C : St) : (miniX ops o free C).ntm = C.ntm ∧ (miniX ops o free C).nx = C.nx ∧ (miniX ops o free C).lg = [] ∧ (miniX ops o free C).df = C.df ∧
    (∀ t v, (miniX ops o free C).tm.get t = some v → C.tm.get t = some v) ∧ (∀ g x, (miniX ops o free C).hp.get g = some x → C.hp.get g = some x) := by
  obtain ⟨ntm, tm, hp, nx, lg, df⟩ := C
  have ht : ∀ t v, (miniT free tm (looksX ops o) .lf).get t = some v → tm.get t = some v := fun t v h => by
    rcases miniT_get free tm _ _ t v h with h | h
    · exact h
    · simp at h
  unfold miniX
  simp only
  split
  · exact ⟨rfl, rfl, rfl, rfl, ht, fun g x h => by simp at h⟩
  · rename_i x _
    refine ⟨rfl, rfl, rfl, rfl, ht, fun g y h => ?_⟩
    have h := dropAllG_get _ _ _ _ h
    unfold oneG at h
    split at h
    · rename_i g' _ _ e
      split at h
      · rename_i o' eo
        have h : (Tr.put (some o') (pathOf g') (Tr.lf : Tr GO)).get g = some y := by
          cases e2 : Tr.put (some o') (pathOf g') (Tr.lf : Tr GO) <;> simp only [e2] at h <;> exact h
        rw [Tr.get_put] at h
        by_cases c : g = g'
        · subst c; simp at h; subst h; exact eo
        · simp [c] at h
      · simp at h
    · simp at h
  · split
    · exact ⟨rfl, rfl, rfl, rfl, ht, fun g x h => h⟩
    · exact ⟨rfl, rfl, rfl, rfl, ht, fun g x h => dropAllG_get _ _ _ _ h⟩

theorem miniX_whole {o : Oper} {free : List Rec} {C : St} (h : isWhole o.op free = true) : (miniX ops o free C).hp = C.hp := by
  obtain ⟨ntm, tm, hp, nx, lg, df⟩ := C
  unfold isWhole at h
  unfold miniX
  split at h
  · rename_i e
    simp only [e, h]
  · cases h

theorem one_ok (hA : AllOK P E B) (hC : CallsOK P E B self) {b : Frame} {k : List Item} {cs : List Frame} {i : Nat} {o : Oper} {rest : List Nat} {ρ : Ren} {m s : St} {a : Act} {w : World}
    (h0 : ops[i]? = some o) (hi : Inv E B ρ m a w) (hrun : run1X E self ops o m = .one () s) : OpPost P E B ops b k cs i rest ρ m a w () s := by
  unfold run1X at hrun
  split at hrun
  · rename_i hw
    have hwant := wanted_ok (ops := ops) hi hw
    by_cases hd : ∃ c, o.op = .defer c
    · obtain ⟨c, hd⟩ := hd
      simp [hd, opX, hNo] at hrun
    · have H : Here ops i o a := ⟨h0, hwant, fun c e => hd ⟨c, e⟩⟩
      have := op_ok hA H hi self fun c f h1 h2 => hC ops b k cs i o rest ρ m a w c f H hi h1 h2
      rw [hrun] at this
      exact this
  · rename_i hw
    have hwant := wanted_ok (ops := ops) hi hw
    have := lay_ok (d := o.dst) (x := undef) hi.tr hi.df hi.hr (.tup _ _ .nil)
    rw [hrun] at this
    obtain ⟨h1, h2, h3, h4⟩ := this
    refine ⟨ρ, a.put o.dst undef, w, ?_, h1, by unfold Evs; rw [h2, h3]; exact Ev.refl _ _ _ _, h4, _, _, h0, rfl⟩
    have := stepR_op_skip (P := P) (b := b) (a := a) (k := k) (cs := cs) (w := w) (ops := ops) (i := i) (rest := rest) (by simp [h0, hwant])
    rw [h0] at this
    exact .one this
  · cases hrun

theorem TR.part {ρ : Ren} {ntm : Nat} {tm tm' : Tr AV} {tmps : Array Value} (h : TR ρ ntm tm tmps) (hs : ∀ t v, tm'.get t = some v → tm.get t = some v) : TR ρ ntm tm' tmps :=
  ⟨h.size, fun t v e => h.val t v (hs t v e)⟩

theorem TR.merge {ρ ρ' ρ2 : Ren} {ntm ntm' : Nat} {tm tm' ts : Tr AV} {a : Act} {d : Option Nat} {x : Value} (h : TR ρ ntm tm a.tmps) (h' : TR ρ' ntm' ts (a.put d x).tmps) (hle : ρ.le ρ2) (hle' : ρ'.le ρ2)
    (hs : ∀ t v, tm'.get t = some v → (d = some t ∧ ts.get t = some v) ∨ (d ≠ some t ∧ tm.get t = some v)) : TR ρ2 ntm tm' (a.put d x).tmps := by
  refine ⟨by have := h.size; cases d <;> simpa [Act.put] using this, fun t v e => ?_⟩
  rcases hs t v e with ⟨_, e⟩ | ⟨hd, e⟩
  · obtain ⟨y, hy, hv⟩ := h'.val t v e
    exact ⟨y, hy, hv.mono hle'⟩
  · obtain ⟨y, hy, hv⟩ := h.val t v e
    refine ⟨y, ?_, hv.mono hle⟩
    cases d with
    | none => exact hy
    | some d =>
      simp only [Act.put]
      rw [Array.getElem?_setIfInBounds, if_neg (fun c => hd (by rw [c]))]
      exact hy

theorem put_defers (a : Act) (d : Option Nat) (x : Value) : (a.put d x).defers = a.defers := by cases d <;> rfl

structure RecOK (P : Program) (E : Env) (B : Nat) (me : Self) (ops : Array Oper) (st : St) (rs : List Rec) (r : Rec) : Prop where
  i : r.i < rs.length
  op : ∃ o, ops[r.i]? = some o ∧ r.dst = o.dst ∧ run1X E me ops o r.m = .one () r.o
  ntm : r.m.ntm = st.ntm
  df : r.m.df = st.df
  lr : ∃ ρ₁ a₁ w₁, Inv E B ρ₁ r.m a₁ w₁
  logs : Logs r.m r.o
  n0 : st.nx ≤ r.m.nx
  subh : ∀ g o, r.m.hp.get g = some o → (hpD st.hp (fun j => decide (j < r.i)) rs).get g = some o
  subt : ∀ t v, r.m.tm.get t = some v → (tmD st.tm (fun j => decide (j < r.i)) rs).get t = some v

structure AllRec (P : Program) (E : Env) (B : Nat) (me : Self) (ops : Array Oper) (st : St) (rs : List Rec) (C : St) (masks : List Nat) : Prop where
  recs : ∀ r, r ∈ rs → RecOK P E B me ops st rs r
  sorted : rs.Pairwise (fun a b => b.i < a.i)
  all : ∀ i, i < rs.length → ∃ r, r ∈ rs ∧ r.i = i
  pair : ∀ r q, r ∈ rs → q ∈ rs → q.i < r.i → q.o.nx ≤ r.m.nx ∧ (bitX r.b q.i = true ∨ Apart r q)
  mask : ∀ r, r ∈ rs → MaskOK ops r.i r.b ∧ ∀ o, ops[r.i]? = some o → ∀ e, e ∈ o.after → bindsX e = true → e.on < r.i
  top : ∀ r, r ∈ rs → r.o.nx ≤ C.nx
  ntm : C.ntm = st.ntm
  df : C.df = st.df
  tm : C.tm = tmD st.tm (fun _ => true) rs
  hp : ∀ g o, C.hp.get g = some o → (hpD st.hp (fun _ => true) rs).get g = some o
  logs : Logs st C
  lr : ∃ ρ₁ a₁ w₁, Inv E B ρ₁ C a₁ w₁
  mlen : masks.length = rs.length
  masks : ∀ j mk, masks[j]? = some mk → MaskOK ops j mk

theorem layX_eq (C : St) (w : Bool) (r : Rec) : (layX C w r).ntm = C.ntm ∧ (layX C w r).df = C.df ∧ (layX C w r).nx = r.o.nx ∧ (layX C w r).lg = r.o.lg ++ C.lg ∧ (layX C w r).tm = putT C.tm r.o.tm r.dst ∧
    (layX C w r).hp = if w then r.o.hp else layG r.o.hp r.turns C.hp := by
  obtain ⟨i, dst, b, m, o⟩ := r
  obtain ⟨ntm, tm, hp, nx, lg, df⟩ := C
  obtain ⟨ntm', tm', hp', nx', lg', df'⟩ := o
  cases w <;> simp [layX, natsApp_eq]

theorem hpD_cons_old {hp0 : Tr GO} {p : Nat → Bool} {r : Rec} {rs : List Rec} (h : p r.i = false) : hpD hp0 p (r :: rs) = hpD hp0 p rs := by simp [hpD, h]
theorem tmD_cons_old {tm0 : Tr AV} {p : Nat → Bool} {r : Rec} {rs : List Rec} (h : p r.i = false) : tmD tm0 p (r :: rs) = tmD tm0 p rs := by simp [tmD, h]

theorem good_all (hA : AllOK P E B) (hC : CallsOK P E B self) (hst : ∃ ρ₁ a₁ w₁, Inv E B ρ₁ st a₁ w₁) {rs : List Rec} {C : St} {masks : List Nat} (h : Good E self ops st rs C masks) : AllRec P E B self ops st rs C masks := by
  induction h with
  | nil =>
    exact ⟨fun r hr => (by cases hr), .nil, fun i hi => absurd hi (by simp), fun r q hr => (by cases hr), fun r hr => (by cases hr), fun r hr => (by cases hr), rfl, rfl, rfl, fun g o h => h, .refl _, hst, rfl, fun j mk h => absurd h (by simp)⟩
  | cons rs C masks o bef s r hgood ho hb hr hrun hap ih =>
    obtain ⟨m1, m2, m3, m4, m5, m6⟩ := miniX_eq (ops := ops) o (freeOf bef rs) C
    have hri : r.i = rs.length := by rw [hr]
    have hrd : r.dst = o.dst := by rw [hr]
    have hrb : r.b = bef := by rw [hr]
    have hrm : r.m = miniX ops o (freeOf bef rs) C := by rw [hr]
    have hro : r.o = s := by rw [hr]
    obtain ⟨ρ₁, a₁, w₁, hinv⟩ := ih.lr

    have hinvm : Inv E B ρ₁ r.m a₁ w₁ := by
      rw [hrm]
      refine ⟨by rw [m1]; exact hinv.tr.part m5, by rw [m4]; exact hinv.df, ?_⟩
      rw [m2]
      exact hinv.hr.weaken (Nat.le_refl _) m6
    rw [← hrm] at hrun m1 m2 m3 m4 m5 m6
    rw [← hro] at hrun
    obtain ⟨ρ', a', w', _, hinv', hev, hlog, o', x, ho', ha'⟩ := one_ok (b := default) (k := []) (cs := []) (rest := []) hA hC ho hinvm hrun
    rw [ho] at ho'; cases ho'
    have hnm := hlog.nx
    obtain ⟨l1, l2, l3, l4, l5, l6⟩ := layX_eq C (isWhole o.op (freeOf bef rs)) r
    have htm := fun g => turns_mem r g hnm

    have hlay : ∀ g y, (layX C (isWhole o.op (freeOf bef rs)) r).hp.get g = some y → (g ∈ r.turns ∧ r.o.hp.get g = some y) ∨ (¬ g ∈ r.turns ∧ C.hp.get g = some y) := by
      intro g y hg
      rw [l6] at hg
      by_cases hw : isWhole o.op (freeOf bef rs) = true
      · rw [if_pos hw] at hg
        by_cases ht : g ∈ r.turns
        · exact .inl ⟨ht, hg⟩
        · refine .inr ⟨ht, ?_⟩
          rw [htm] at ht
          have hlt := (hinv'.hr.obj g y hg).2.1
          have h1 : g < r.m.nx := by
            rcases Nat.lt_or_ge g r.m.nx with c | c
            · exact c
            · exact absurd (.inr ⟨c, hlt⟩) ht
          have := hlog.same g h1 fun c => ht (.inl c)
          rw [hg] at this
          rw [hrm, miniX_whole hw] at this
          exact this.symm
      · rw [if_neg hw, layG_get] at hg
        by_cases ht : g ∈ r.turns
        · rw [if_pos ht] at hg; exact .inl ⟨ht, hg⟩
        · rw [if_neg ht] at hg; exact .inr ⟨ht, hg⟩
    have hsame : ∀ g, g < C.nx → ¬ g ∈ r.o.lg → (layX C (isWhole o.op (freeOf bef rs)) r).hp.get g = C.hp.get g := by
      intro g hg hn
      rw [← m2] at hg
      rw [l6]
      by_cases hw : isWhole o.op (freeOf bef rs) = true
      · rw [if_pos hw, hlog.same g hg hn, hrm, miniX_whole hw]
      · rw [if_neg hw, layG_get, if_neg]
        rw [htm]
        rintro (c | ⟨c, _⟩)
        · exact hn c
        · omega
    have hCnx : C.nx ≤ r.o.nx := by rw [← m2]; exact hnm
    have htrue : ∀ q, q ∈ rs → q.i < rs.length := fun q hq => (ih.recs q hq).i
    have hprefix_h : ∀ g, (hpD st.hp (fun j => decide (j < rs.length)) (r :: rs)).get g = (hpD st.hp (fun _ => true) rs).get g := by
      intro g
      rw [hpD_cons_old (by simp [hri])]
      exact hpD_congr fun q hq _ => by simp [htrue q hq]
    have hprefix_t : ∀ t, (tmD st.tm (fun j => decide (j < rs.length)) (r :: rs)).get t = (tmD st.tm (fun _ => true) rs).get t := by
      intro t
      rw [tmD_cons_old (by simp [hri])]
      exact tmD_congr fun q hq _ => by simp [htrue q hq]
    obtain ⟨hmask, hedge⟩ := befX_ok ih.mlen ih.masks o.after.toList 0 bef hb (fun k hk => by rw [bitX_eq] at hk; simp at hk) (fun e he hbd D hD hi => hD _ _ e ho (by simpa using he) hbd hi)
    have hleC : Logs C (layX C (isWhole o.op (freeOf bef rs)) r) := ⟨by rw [l3]; exact hCnx, fun g hg => by rw [l4]; exact List.mem_append_right _ hg, fun g hg hn => hsame g hg fun c => hn (by rw [l4]; exact List.mem_append_left _ c)⟩
    refine ⟨fun q hq => ?_, ?_, fun i hi => ?_, fun q q' hq hq' hlt => ?_, fun q hq => ?_, fun q hq => ?_, by rw [l1]; exact ih.ntm, by rw [l2]; exact ih.df, ?_, fun g y hg => ?_, ih.logs.trans hleC, ?_, ?_, fun j mk hj => ?_⟩
    · rcases List.mem_cons.1 hq with rfl | hq
      · refine ⟨by rw [hri]; simp, ⟨o, by rw [hri]; exact ho, hrd, hrun⟩, by rw [m1]; exact ih.ntm, by rw [m4]; exact ih.df, ⟨ρ₁, a₁, w₁, hinvm⟩, hlog, by rw [m2]; exact ih.logs.nx, fun g y hg => ?_, fun t v ht => ?_⟩
        · rw [hri, hprefix_h]; exact ih.hp g y (m6 g y hg)
        · rw [hri, hprefix_t, ← ih.tm]; exact m5 t v ht
      · have hk := ih.recs q hq
        have hlt := hk.i
        refine ⟨by simp; omega, hk.op, hk.ntm, hk.df, hk.lr, hk.logs, hk.n0, fun g y hg => ?_, fun t v ht => ?_⟩
        · rw [hpD_cons_old (by simp [hri]; omega)]; exact hk.subh g y hg
        · rw [tmD_cons_old (by simp [hri]; omega)]; exact hk.subt t v ht
    · rw [List.pairwise_cons]
      exact ⟨fun q hq => by rw [hri]; exact htrue q hq, ih.sorted⟩
    · simp only [List.length_cons] at hi
      rcases Nat.lt_or_ge i rs.length with c | c
      · obtain ⟨q, hq, e⟩ := ih.all i c; exact ⟨q, by simp [hq], e⟩
      · exact ⟨r, by simp, by rw [hri]; omega⟩
    · rcases List.mem_cons.1 hq with e1 | h1 <;> rcases List.mem_cons.1 hq' with e2 | h2
      · rw [e1, e2] at hlt; omega
      · rw [e1]
        refine ⟨by rw [m2]; exact ih.top q' h2, ?_⟩
        rw [hrb]
        rcases freeOf_mem (b := bef) h2 with c | c
        · exact .inl c
        · exact .inr (allApart_ok hap q' c)
      · have := htrue q h1; rw [e2, hri] at hlt; omega
      · exact ih.pair q q' h1 h2 hlt
    · rcases List.mem_cons.1 hq with rfl | hq
      · rw [hri, hrb]
        refine ⟨hmask, fun o2 ho2 e he hbd => ?_⟩
        rw [ho] at ho2; cases ho2
        exact hedge e (by simpa using he) hbd
      · exact ih.mask q hq
    · rw [l3]
      rcases List.mem_cons.1 hq with rfl | hq
      · exact Nat.le_refl _
      · exact Nat.le_trans (ih.top q hq) hCnx
    · rw [l5, ih.tm]; simp [tmD]
    · simp only [hpD, if_true, layG_get]
      rcases hlay g y hg with ⟨c, h⟩ | ⟨c, h⟩
      · rw [if_pos c]; exact h
      · rw [if_neg c]; exact ih.hp g y h
    · obtain ⟨g1, g2⟩ := HR.merge (ρ := ρ₁) (ρi := ρ₁) (ρ' := ρ') (hC := C.hp) (hm := r.m.hp) (ho := r.o.hp) (hC' := (layX C (isWhole o.op (freeOf bef rs)) r).hp) (N := C.nx) (N' := r.o.nx) (n := r.m.nx) (n' := r.o.nx) (fun g => g ∈ r.turns)
        hinv.hr (.refl _) m6 hinv'.hr hev (fun g m L L' a b => by have := hev.le.loc _ _ _ a; rw [this] at b; cases b; rfl) hlay
        (fun g y hn hg => by
          have hlt := (hinvm.hr.obj g y hg).2.1
          rw [htm] at hn
          rw [hlog.same g hlt fun c => hn (.inl c)]; exact hg) hCnx (Nat.le_refl _)
      refine ⟨ρ₁.over ρ', a', w', ?_, ?_, ?_⟩
      · rw [l1, l5, ha']
        rw [ha'] at hinv'
        refine hinv.tr.merge hinv'.tr (Ren.le_over _ _) (Ren.over_le (hev.le.tok) fun g m L L' a b => by have := hev.le.loc _ _ _ a; rw [this] at b; cases b; rfl) fun t v hv => ?_
        rw [putT_get, hrd] at hv
        by_cases c : o.dst = some t
        · rw [if_pos c] at hv; exact .inl ⟨c, hv⟩
        · rw [if_neg c] at hv; exact .inr ⟨c, hv⟩
      · rw [l2, ha', put_defers]; exact Inv.mono_df (Ren.le_over _ _) hinv.df
      · rw [l3]; exact g1
    · simp [snocL_eq, ih.mlen]
    · rw [snocL_eq] at hj
      rcases Nat.lt_or_ge j masks.length with c | c
      · rw [List.getElem?_append_left c] at hj; exact ih.masks j mk hj
      · rw [List.getElem?_append_right c] at hj
        have : j - masks.length = 0 := by
          rcases Nat.eq_zero_or_pos (j - masks.length) with c' | c'
          · exact c'
          · rw [List.getElem?_eq_none (by simp; omega)] at hj; cases hj
        rw [this] at hj
        simp at hj
        subst hj
        have hj' : j = rs.length := by have := ih.mlen; omega
        rw [hj']; exact hmask

end
end Go.Proofs.YtcedalofcekdkaaGreatDoor.Ex
end

section
namespace Go.Proofs.YtcedalofcekdkaaGreatDoor.Ex
section
variable {P : Program} {E : Env} {B : Nat} {self : Self} {ops : Array Oper} {st : St}

theorem Apart.symm {r q : Rec} (h : Apart r q) : Apart q r :=
  ⟨h.t2, h.t1, fun d e e' => h.d d e' e, h.h2, h.h1, fun g h1 h2 => h.w g h2 h1⟩

structure SJ (E : Env) (B : Nat) (st : St) (rs : List Rec) (N : Nat) (ρ0 : Ren) (a0 : Act) (w0 : World) (p : Nat → Bool) (ρ : Ren) (a : Act) (w : World) : Prop where
  hr : HR E B ρ (hpD st.hp p rs) N w
  tr : TR ρ st.ntm (tmD st.tm p rs) a.tmps
  df : a.defers = a0.defers
  sup : ∀ g m L, ρ.loc g m = some L → (g < st.nx ∧ m < st.nx) ∨ ∃ r, r ∈ rs ∧ p r.i = true ∧ (r.m.nx ≤ g ∨ r.m.nx ≤ m) ∧ g < r.o.nx ∧ m < r.o.nx
  ev : Ev ρ0 st.hp st.nx w0 ρ (hpD st.hp p rs) N w

theorem sj_step (hA : AllOK P E B) (hC : CallsOK P E B self) {rs : List Rec} {C : St} {masks : List Nat} (hR : AllRec P E B self ops st rs C masks) {ρ0 : Ren} {a0 : Act} {w0 : World} (h0 : Inv E B ρ0 st a0 w0)
    {p p' : Nat → Bool} {ρ : Ren} {a : Act} {w : World} (hJ : SJ E B st rs C.nx ρ0 a0 w0 p ρ a w) {r : Rec} (hr : r ∈ rs) (hp : p r.i = false) (hcl : Closed ops (fun j => p j = true))
    (hpre : ∀ o e, ops[r.i]? = some o → e ∈ o.after → bindsX e = true → p e.on = true) (hp' : ∀ q, q ∈ rs → p' q.i = (p q.i || decide (q.i = r.i))) {b : Frame} {k : List Item} {cs : List Frame} {rest : List Nat} :
    ∃ ρ' a' w', Steps P (lone (b.atR a (.inRegion ops (r.i :: rest) :: k)) cs w) (lone (b.atR a' (.inRegion ops rest :: k)) cs w') ∧ SJ E B st rs C.nx ρ0 a0 w0 p' ρ' a' w' := by
  have hk := hR.recs r hr
  obtain ⟨o, ho, hdst, hrun⟩ := hk.op
  obtain ⟨ρ₁, a₁, w₁, hlr⟩ := hk.lr
  have hnm := hk.logs.nx
  have htop := hR.top r hr
  have htm := fun g => turns_mem r g hnm

  have hcl' : Closed ops (fun j => p j = true ∨ j = r.i) := by
    intro j o2 e ho2 he hb hj
    rcases hj with hj | rfl
    · exact .inl (hcl j o2 e ho2 he hb hj)
    · exact .inl (hpre o2 e ho2 he hb)
  have hkey : ∀ q, q ∈ rs → q.i ≠ r.i → p q.i = decide (q.i < r.i) ∨ Apart r q := by
    intro q hq hne
    rcases Nat.lt_or_ge q.i r.i with hlt | hge
    · rcases (hR.pair r q hr hq hlt).2 with hb | hap
      · left
        rcases ((hR.mask r hr).1 q.i hb).2 _ hcl' (.inr rfl) with c | c
        · simp [c, hlt]
        · exact absurd c hne
      · exact .inr hap
    · have hlt : r.i < q.i := by omega
      rcases (hR.pair q r hq hr hlt).2 with hb | hap
      · left
        cases hpq : p q.i with
        | false => simp; omega
        | true =>
          have := ((hR.mask q hq).1 r.i hb).2 _ hcl hpq
          rw [hp] at this; cases this
      · exact .inr hap.symm
  have hsubh : ∀ g y, r.m.hp.get g = some y → (hpD st.hp p rs).get g = some y := by
    intro g y hg
    rw [hpD_congr (p := p) (q := fun j => decide (j < r.i)) fun q hq ht => ?_]
    · exact hk.subh g y hg
    · by_cases hne : q.i = r.i
      · rw [hne, hp]; simp
      · rcases hkey q hq hne with c | c
        · exact c
        · rw [c.h1 g ht] at hg; cases hg
  have hsubt : ∀ t v, r.m.tm.get t = some v → (tmD st.tm p rs).get t = some v := by
    intro t v ht
    rw [tmD_congr (p := p) (q := fun j => decide (j < r.i)) fun q hq hd => ?_]
    · exact hk.subt t v ht
    · by_cases hne : q.i = r.i
      · rw [hne, hp]; simp
      · rcases hkey q hq hne with c | c
        · exact c
        · rw [c.t1 t hd] at ht; cases ht

  have hH : ∀ g m L L₁, ρ₁.loc g m = some L₁ → ρ.loc g m = some L → (ρ.cut r.m.nx).loc g m = some L := fun g m L L₁ a b => Ren.cut_at (hlr.hr.fresh g m L₁ a).1 (hlr.hr.fresh g m L₁ a).2 b
  have hinvm : Inv E B (ρ.cut r.m.nx) r.m a w := by
    refine ⟨?_, ?_, HR.part hJ.hr hlr.hr hsubh⟩
    · rw [hk.ntm]
      exact TR.thru hH rfl hlr.tr (hJ.tr.part hsubt)
    · rw [hk.df, hJ.df]
      obtain ⟨bs, b1, b2, b3⟩ := h0.df
      refine ⟨bs, b1, b2, fun i g bk hg hbk => ?_⟩
      obtain ⟨L, hL, e⟩ := b3 i g bk hg hbk
      have hn0 := hk.n0
      have hf := h0.hr.fresh g 0 L hL
      exact ⟨L, Ren.cut_at (by omega) (by omega) (hJ.ev.le.loc _ _ _ hL), e⟩
  obtain ⟨ρ', a', w', hsteps, hinv', hev, hlog, o', x, ho', ha'⟩ := one_ok (b := b) (k := k) (cs := cs) (rest := rest) hA hC ho hinvm hrun
  rw [ho] at ho'; cases ho'

  have hcon : ∀ g m L L', ρ.loc g m = some L → ρ'.loc g m = some L' → L = L' := by
    intro g m L L' hL hL'
    rcases hev.only g m L' hL' with c | c
    · have := (Ren.cut_some c).2.2
      rw [hL] at this; cases this; rfl
    · have hf := hinv'.hr.fresh g m L' hL'
      have hn0 := hk.n0
      rcases hJ.sup g m L hL with d | ⟨q, hq, hpq, d1, d2, d3⟩
      · omega
      · have hne : q.i ≠ r.i := fun e => by rw [e, hp] at hpq; cases hpq
        rcases Nat.lt_or_ge q.i r.i with hlt | hge
        · have := (hR.pair r q hr hq hlt).1; omega
        · have := (hR.pair q r hq hr (by omega)).1; omega
  have hle' : ρ'.le (ρ.over ρ') := Ren.over_le (hev.le.tok) hcon

  have hlast : ∀ g, g ∈ r.turns → (hpD st.hp p' rs).get g = r.o.hp.get g := by
    intro g hg
    rw [hpD_get, find_last (r := r) hR.sorted hr (by simp [hp' r hr, (memN_eq g r.turns).2 hg]) fun q hq hlt => ?_]
    rw [hp' q hq]
    have hne : q.i ≠ r.i := by omega
    rcases hkey q hq hne with c | c
    · have : p q.i = false := by rw [c]; simp; omega
      simp [this, hne]
    · cases hm : memN g q.turns with
      | false => simp
      | true => exact absurd hg (c.w g ((memN_eq _ _).1 hm))
  have hother : ∀ g, ¬ g ∈ r.turns → (hpD st.hp p' rs).get g = (hpD st.hp p rs).get g := by
    intro g hg
    refine hpD_congr fun q hq ht => ?_
    rw [hp' q hq]
    by_cases hne : q.i = r.i
    · exfalso
      have hqr : q = r := by
        rcases List.mem_iff_getElem?.1 hq with ⟨i, hi⟩
        rcases List.mem_iff_getElem?.1 hr with ⟨j, hj⟩
        have hs := hR.sorted
        rw [List.pairwise_iff_getElem] at hs
        obtain ⟨hi1, hi2⟩ := List.getElem?_eq_some_iff.1 hi
        obtain ⟨hj1, hj2⟩ := List.getElem?_eq_some_iff.1 hj
        rcases Nat.lt_trichotomy i j with c | c | c
        · have := hs i j hi1 hj1 c; rw [hi2, hj2] at this; omega
        · subst c; rw [hi] at hj; cases hj; rfl
        · have := hs j i hj1 hi1 c; rw [hi2, hj2] at this; omega
      exact hg (hqr ▸ ht)
    · simp [hne]
  have htlast : ∀ t v, (tmD st.tm p' rs).get t = some v → (r.dst = some t ∧ r.o.tm.get t = some v) ∨ (r.dst ≠ some t ∧ (tmD st.tm p rs).get t = some v) := by
    intro t v hv
    by_cases hd : r.dst = some t
    · refine .inl ⟨hd, ?_⟩
      rw [tmD_get, find_last (r := r) hR.sorted hr (by simp [hp' r hr, hd]) fun q hq hlt => ?_] at hv
      · exact hv
      · rw [hp' q hq]
        have hne : q.i ≠ r.i := by omega
        rcases hkey q hq hne with c | c
        · have : p q.i = false := by rw [c]; simp; omega
          simp [this, hne]
        · simp [c.d t hd]
    · refine .inr ⟨hd, ?_⟩
      rw [tmD_congr (p := p) (q := p') fun q hq hqd => ?_]
      · exact hv
      · rw [hp' q hq]
        by_cases hne : q.i = r.i
        · have hqr : q.dst = r.dst := by
            obtain ⟨o2, ho2, hd2, _⟩ := (hR.recs q hq).op
            rw [hne, ho] at ho2; cases ho2
            rw [hd2, hdst]
          exact absurd (hqr ▸ hqd) hd
        · simp [hne]
  obtain ⟨g1, g2⟩ := HR.merge (hC' := hpD st.hp p' rs) (N' := C.nx) (fun g => g ∈ r.turns) hJ.hr (Ren.cut_le ρ r.m.nx) hsubh hinv'.hr hev hcon
    (fun g y hg => by
      by_cases ht : g ∈ r.turns
      · rw [hlast g ht] at hg; exact .inl ⟨ht, hg⟩
      · rw [hother g ht] at hg; exact .inr ⟨ht, hg⟩)
    (fun g y hn hg => by
      have hlt := (hinvm.hr.obj g y hg).2.1
      rw [htm] at hn
      rw [hlog.same g hlt fun c => hn (.inl c)]; exact hg) (Nat.le_refl _) htop
  refine ⟨ρ.over ρ', a', w', hsteps, g1, ?_, by rw [ha', put_defers]; exact hJ.df, fun g m L hL => ?_, g2 ρ0 st.hp st.nx w0 hJ.ev hk.n0⟩
  · rw [ha']
    rw [ha'] at hinv'
    refine hJ.tr.merge hinv'.tr (Ren.le_over _ _) hle' fun t v hv => ?_
    rw [← hdst]; exact htlast t v hv
  · rcases Ren.over_some hL with c | c
    · rcases hJ.sup g m L c with d | ⟨q, hq, hpq, d⟩
      · exact .inl d
      · exact .inr ⟨q, hq, by rw [hp' q hq, hpq]; rfl, d⟩
    · rcases hev.only g m L c with d | d
      · rcases hJ.sup g m L (Ren.cut_some d).2.2 with e | ⟨q, hq, hpq, e⟩
        · exact .inl e
        · exact .inr ⟨q, hq, by rw [hp' q hq, hpq]; rfl, e⟩
      · have hf := hinv'.hr.fresh g m L c
        exact .inr ⟨r, hr, by rw [hp' r hr]; simp, d, hf.1, hf.2⟩

def cnt (p : Nat → Bool) : Nat → Nat
  | 0 => 0
  | n + 1 => (if p n then 1 else 0) + cnt p n

theorem cnt_le (p : Nat → Bool) : ∀ n, cnt p n ≤ n
  | 0 => Nat.le_refl _
  | n + 1 => by have := cnt_le p n; simp only [cnt]; split <;> omega

theorem cnt_all {p : Nat → Bool} : ∀ n, cnt p n = n → ∀ i, i < n → p i = true
  | 0, _, i, hi => by omega
  | n + 1, h, i, hi => by
    have := cnt_le p n
    simp only [cnt] at h
    split at h
    · rename_i hp
      rcases Nat.lt_or_ge i n with c | c
      · exact cnt_all n (by omega) i c
      · have : i = n := by omega
        subst this; exact hp
    · omega

theorem cnt_congr {p q : Nat → Bool} : ∀ n, (∀ i, i < n → p i = q i) → cnt p n = cnt q n
  | 0, _ => rfl
  | n + 1, h => by simp only [cnt]; rw [h n (by omega), cnt_congr n fun i hi => h i (by omega)]

theorem cnt_add {p q : Nat → Bool} {i : Nat} (hp : p i = false) (hq : q i = true) : ∀ n, i < n → (∀ j, j < n → j ≠ i → q j = p j) → cnt q n = cnt p n + 1
  | 0, hi, _ => by omega
  | n + 1, hi, h => by
    simp only [cnt]
    by_cases c : i = n
    · subst c
      rw [hp, hq, cnt_congr i fun j hj => h j (by omega) (by omega)]
      simp; omega
    · rw [h n (by omega) (fun e => c e.symm), cnt_add hp hq n (by omega) fun j hj hne => h j (by omega) hne]
      omega

theorem getD_set (l : Array Bool) (i j : Nat) (hi : i < l.size) : (l.setIfInBounds i true).getD j false = (l.getD j false || decide (j = i)) := by
  simp only [Array.getD_eq_getD_getElem?, Array.getElem?_setIfInBounds]
  by_cases h : i = j
  · subst h; simp [hi]
  · have : ¬ j = i := fun e => h e.symm
    simp [h, this]

theorem sched_ok (hA : AllOK P E B) (hC : CallsOK P E B self) {rs : List Rec} {C : St} {masks : List Nat} (hR : AllRec P E B self ops st rs C masks) (hlen : rs.length = ops.size) {ρ0 : Ren} {a0 : Act} {w0 : World} (h0 : Inv E B ρ0 st a0 w0)
    {b : Frame} {k : List Item} {cs : List Frame} :
    ∀ (fuel t : Nat) (listed : Array Bool) (ρ : Ren) (a : Act) (w : World), listed.size = ops.size → SJ E B st rs C.nx ρ0 a0 w0 (fun j => listed.getD j false) ρ a w → Closed ops (fun j => listed.getD j false = true) →
      ops.size ≤ fuel + cnt (fun j => listed.getD j false) ops.size →
      ∃ ρ' a' w', Steps P (lone (b.atR a (.inRegion ops (Region.linearise.go .any ops fuel t listed []) :: k)) cs w) (lone (b.atR a' (.inRegion ops [] :: k)) cs w') ∧ SJ E B st rs C.nx ρ0 a0 w0 (fun _ => true) ρ' a' w' := by
  have fin : ∀ (listed : Array Bool) (ρ : Ren) (a : Act) (w : World), SJ E B st rs C.nx ρ0 a0 w0 (fun j => listed.getD j false) ρ a w → (∀ i, i < ops.size → listed.getD i false = true) → SJ E B st rs C.nx ρ0 a0 w0 (fun _ => true) ρ a w := by
    intro listed ρ a w hJ hall
    have hi : ∀ r, r ∈ rs → listed.getD r.i false = true := fun r hr => hall r.i (by rw [← hlen]; exact (hR.recs r hr).i)
    have hh : ∀ g, (hpD st.hp (fun _ => true) rs).get g = (hpD st.hp (fun j => listed.getD j false) rs).get g := fun g => hpD_congr fun r hr _ => (hi r hr).symm
    have ht : ∀ t, (tmD st.tm (fun _ => true) rs).get t = (tmD st.tm (fun j => listed.getD j false) rs).get t := fun t => tmD_congr fun r hr _ => (hi r hr).symm
    exact ⟨hJ.hr.weaken (Nat.le_refl _) fun g o e => by rw [← hh]; exact e, hJ.tr.part fun t v e => by rw [← ht]; exact e, hJ.df, fun g m L hL => (hJ.sup g m L hL).imp id fun ⟨r, hr, _, d⟩ => ⟨r, hr, rfl, d⟩,
      hJ.ev.sub fun g o e => by rw [← hh]; exact e⟩
  intro fuel
  induction fuel with
  | zero =>
    intro t listed ρ a w hsz hJ _ hcnt
    have hc := cnt_le (fun j => listed.getD j false) ops.size
    refine ⟨ρ, a, w, by simpa [Region.linearise.go] using Steps.refl _ _, fin listed ρ a w hJ fun i hi => cnt_all (p := fun j => listed.getD j false) ops.size (by omega) i hi⟩
  | succ fuel ih =>
    intro t listed ρ a w hsz hJ hcl hcnt
    simp only [Region.linearise.go]
    change ∃ ρ' a' w', Steps P (lone (b.atR a (.inRegion ops (match (Region.ready .any ops listed)[t % (Region.ready .any ops listed).length]? with
      | some i => Region.linearise.go .any ops fuel (t / (Region.ready .any ops listed).length) (listed.setIfInBounds i true) [i]
      | none => [].reverse) :: k)) cs w) _ ∧ _
    cases hi : (Region.ready .any ops listed)[t % (Region.ready .any ops listed).length]? with
    | none =>
      have hnil : Region.ready .any ops listed = [] := by
        cases hr : Region.ready .any ops listed with
        | nil => rfl
        | cons x xs =>
          rw [hr] at hi
          have hlt : t % (x :: xs).length < (x :: xs).length := Nat.mod_lt _ (by simp)
          simp at hi
          simp at hlt
          omega
      refine ⟨ρ, a, w, by simpa using Steps.refl _ _, fin listed ρ a w hJ ?_⟩

      have hall : ∀ n i, i < n → i < ops.size → listed.getD i false = true := by
        intro n
        induction n with
        | zero => intro i hi; omega
        | succ n ihn =>
          intro i hin his
          cases hli : listed.getD i false with
          | true => rfl
          | false =>
            exfalso
            have hmem : i ∈ Region.ready .any ops listed := by
              rw [mem_ready]
              refine ⟨?_, ops[i], by simp [his], fun e he hb => ?_⟩
              · have : i < listed.size := by omega
                simpa [Array.getD_eq_getD_getElem?, this] using hli
              · obtain ⟨r, hr, hri⟩ := hR.all i (by omega)
                have := (hR.mask r hr).2 ops[i] (by rw [hri]; simp [his]) e he (by rw [bindsX_eq]; exact hb)
                exact ihn e.on (by omega) (by omega)
            rw [hnil] at hmem; cases hmem
      exact fun i hi => hall (i + 1) i (by omega) hi
    | some i =>
      simp only []
      rw [linearise_go_acc, List.reverse_singleton, List.singleton_append]
      have hmem := List.mem_of_getElem? hi
      obtain ⟨hun, o, ho, hpre⟩ := mem_ready.1 hmem
      have his : i < ops.size := (Array.getElem?_eq_some_iff.1 ho).1
      have hisz : i < listed.size := by omega
      have hun' : listed.getD i false = false := by simpa [Array.getD_eq_getD_getElem?, hisz] using hun
      obtain ⟨r, hr, rfl⟩ := hR.all i (by omega)
      obtain ⟨ρ1, a1, w1, h1, h2⟩ := sj_step (p' := fun j => (listed.setIfInBounds r.i true).getD j false) (b := b) (k := k) (cs := cs) (rest := Region.linearise.go .any ops fuel (t / (Region.ready .any ops listed).length) (listed.setIfInBounds r.i true) []) hA hC hR h0 hJ hr hun' hcl
        (fun o2 e ho2 he hb => by rw [ho] at ho2; cases ho2; exact hpre e he (by rw [← bindsX_eq]; exact hb)) (fun q hq => getD_set listed r.i q.i hisz)
      have hcl' : Closed ops (fun j => (listed.setIfInBounds r.i true).getD j false = true) := by
        intro j o2 e ho2 he hb hj
        simp only [getD_set listed r.i _ hisz, Bool.or_eq_true, decide_eq_true_eq] at hj ⊢
        rcases hj with hj | rfl
        · exact .inl (hcl j o2 e ho2 he hb hj)
        · rw [ho] at ho2; cases ho2
          exact .inl (hpre e he (by rw [← bindsX_eq]; exact hb))
      have hadd := cnt_add (p := fun j => listed.getD j false) (q := fun j => (listed.setIfInBounds r.i true).getD j false) (i := r.i) hun' (by simp [getD_set listed r.i _ hisz]) ops.size his (fun j _ hne => by simp [getD_set listed r.i _ hisz, hne])
      obtain ⟨ρ2, a2, w2, h3, h4⟩ := ih _ (listed.setIfInBounds r.i true) ρ1 a1 w1 (by simp [hsz]) h2 hcl' (by omega)
      exact ⟨ρ2, a2, w2, h1.trans h3, h4⟩

theorem draw_code (hA : AllOK P E B) (hC : CallsOK P E B self) (hmix : P.follows .mixedOrders = true) {id : Nat} {ro : Option Nat} {b : Frame} {k : List Item} {cs : List Frame} {ρ : Ren} {a : Act} {w : World} (hi : Inv E B ρ st a w) :
    (cDraw ops E self ro st).Holds (CPost P E B b k cs (.region id ops true) ρ st a w) := by
  unfold cDraw
  cases hd : drawX E self ops ops.toList 0 [] [] st with
  | no w => trivial
  | two x y => exact (drawX_two _ _ _ _ _ _ _ hd).elim
  | one u C =>
    obtain ⟨rs, masks, hg, hlen⟩ := drawX_good (st := st) ops.toList 0 [] [] st C hd .nil rfl fun n hn => by simp
    have h0 : Inv E B ρ st a { w with drawn := w.drawn + 1 } := ⟨hi.tr, hi.df, hi.hr.drawn _⟩
    have hR := good_all hA hC ⟨ρ, a, _, h0⟩ hg
    have hlen' : rs.length = ops.size := by simpa using hlen
    have hfalse : ∀ j, (Array.replicate ops.size false).getD j false = false := fun j => by
      simp only [Array.getD_eq_getD_getElem?, Array.getElem?_replicate]
      split <;> rfl
    have hh : ∀ g, (hpD st.hp (fun j => (Array.replicate ops.size false).getD j false) rs).get g = st.hp.get g := by
      intro g
      rw [hpD_get]
      have : rs.find? (fun r : Rec => (Array.replicate ops.size false).getD r.i false && memN g r.turns) = none := by
        rw [List.find?_eq_none]; intro r _; simp [hfalse]
      rw [this]
    have ht : ∀ t, (tmD st.tm (fun j => (Array.replicate ops.size false).getD j false) rs).get t = st.tm.get t := by
      intro t
      rw [tmD_get]
      have : rs.find? (fun r : Rec => (Array.replicate ops.size false).getD r.i false && decide (r.dst = some t)) = none := by
        rw [List.find?_eq_none]; intro r _; simp [hfalse]
      rw [this]
    have hJ : SJ E B st rs C.nx ρ a { w with drawn := w.drawn + 1 } (fun j => (Array.replicate ops.size false).getD j false) ρ a { w with drawn := w.drawn + 1 } := by
      refine ⟨h0.hr.weaken hR.logs.nx fun g o e => by rw [← hh]; exact e, h0.tr.part fun t v e => by rw [← ht]; exact e, rfl, fun g m L hL => .inl (h0.hr.fresh g m L hL), ?_⟩
      exact ⟨.refl _, hR.logs.nx, fun _ _ _ h => .inl h, rfl, rfl, rfl, Nat.le_refl _, fun _ _ _ => rfl, fun r ⟨g, o, m, L, h1, h2, h3, h4⟩ => .inr ⟨g, o, m, L, by rw [← hh]; exact h1, h2, h3, h4⟩⟩
    obtain ⟨ρ', a', w', h1, h2⟩ := sched_ok (b := b) (k := k) (cs := cs) hA hC hR hlen' h0 ops.size (w.tape w.drawn (.order b.fn id)) (Array.replicate ops.size false) ρ a { w with drawn := w.drawn + 1 } (by simp) hJ
      (fun j o e ho he hb hj => by simp only [hfalse] at hj; cases hj) (by omega)
    refine ⟨ρ', a', w', _, .head stepR_region_draw ?_, rfl, ⟨?_, ?_, ?_⟩, ?_, hR.logs⟩
    · simp only [Region.schedule, hmix, Bool.true_or, if_true]
      exact h1.trans (.one stepR_region_end)
    · rw [hR.ntm, hR.tm]; exact h2.tr
    · rw [hR.df, h2.df]; exact Inv.mono_df h2.ev.le hi.df
    · exact h2.hr.weaken (Nat.le_refl _) hR.hp
    · have := (h2.ev.sub hR.hp)
      exact (Ev.drawn ρ st.hp st.nx w (w.drawn + 1)).trans this

end
end Go.Proofs.YtcedalofcekdkaaGreatDoor.Ex
end

section
namespace Go.Proofs.YtcedalofcekdkaaGreatDoor.Ex
section
variable {P : Program} {E : Env} {B : Nat}

def SummOK (P : Program) (E : Env) (B : Nat) : Prop :=
  ∀ (f : Nat) (args : List AV) (v : AV) (xs : List Value) (fr : Frame) (cs : List Frame) (ρ : Ren) (st : St) (w : World), E.summ f args = some v → HRs E B ρ st w → VRL ρ args xs → InvPost P E B (.fn (.func f) #[]) xs.toArray fr cs ρ st w v st

structure PlaceOK (P : Program) (E : Env) (B : Nat) : Prop where
  all : AllOK P E B
  ext : ExtOK P E
  mix : P.follows .mixedOrders = true
  summ : SummOK P E B

theorem rest_ok (h : PlaceOK P E B) {me : Self} (hS : SelfOK P E B me) : RestOK P E B me :=
  ⟨fun _ _ _ _ _ hh ho => join_ok hh ho, h.summ, fun _ _ _ _ _ _ _ _ _ _ _ hs hn hh hv hg => noZero_ok h.ext hs hn hh hv hg, fun _ _ _ _ _ _ _ _ hs hh hv => same_ok h.ext hs hh hv, fun _ _ _ _ _ _ _ _ _ hh hL hx => yield_ok hS hh hL hx⟩

theorem stepR_scope {b : Frame} {a : Act} {k : List Item} {cs : List Frame} {w : World} {c : Code} :
    step P (lone (b.atR a (.code (.scope c) :: k)) cs w) = .next (lone (b.atR a (.code c :: .inScope c :: k)) cs w) :=
  step_lone_go (by simp [stepG, stepG.exec, Frame.atR])

theorem stepR_inScope {b : Frame} {a : Act} {k : List Item} {cs : List Frame} {w : World} {c : Code} :
    step P (lone (b.atR a (.inScope c :: k)) cs w) = .next (lone (b.atR a k) cs w) :=
  step_lone_go (by simp [stepG, stepG.exec, Frame.atR])

theorem scope_code {self : Self} {ro : Option Nat} {b : Frame} {a : Act} {k : List Item} {cs : List Frame} {w : World} {ρ : Ren} {st : St} (hS : SelfOK P E B self) {c : Code} (hf : Fr ρ ro b) (hi : Inv E B ρ st a w) :
    (cScope c E self ro st).Holds (CPost P E B b k cs (.scope c) ρ st a w) := by
  unfold cScope
  refine (hS c ro b (.inScope c :: k) cs ρ st a w hf hi).mono ?_
  rintro e s ⟨ρ1, a1, w1, σ, h1, h2, h3, h4, l1⟩
  have h0 : Steps P (lone (b.atR a (.code (.scope c) :: k)) cs w) σ := .head stepR_scope h1
  cases e with
  | normal =>
    simp only [Stands] at h2; subst h2
    exact ⟨ρ1, a1, w1, _, h0.trans (.one stepR_inScope), rfl, h3, h4, l1⟩
  | exit id => exact ⟨ρ1, a1, w1, σ, h0, h2.leave (by simp) (fun i _ => by simp [exitTo]), h3, h4, l1⟩
  | ret => exact ⟨ρ1, a1, w1, σ, h0, h2.leave (by simp) (fun _ e => by cases e), h3, h4, l1⟩

theorem step_ok (h : PlaceOK P E B) {self : Self} (hS : SelfOK P E B self) : SelfOK P E B (fun c => stepX c E self) := by
  intro c ro b k cs ρ st a w hf hi
  have hA := h.all
  have hO := rest_ok h hS
  cases c with
  | skip => exact skip_code (ro := ro) (self := self) hi stepR_skip
  | label l => exact skip_code (ro := ro) (self := self) hi stepR_label
  | region id ops draw =>
    cases draw with
    | false => exact region_code (ro := ro) hA (calls_ok hA hS hO) hi
    | true => exact draw_code (ro := ro) hA (calls_ok hA hS hO) h.mix hi
  | seq x y => exact seq_code hS hf hi
  | cond c x y => exact cond_code hS hf hi
  | block id c => exact block_code hS hf hi
  | loop c => exact loop_code hS hf hi
  | scope c => exact scope_code hS hf hi
  | exit id => exact exit_code (ro := ro) (self := self) hi
  | ret => exact ret_code (ro := ro) (self := self) hi
  | rangeFunc f ps asg body => exact range_code hA hS hO hf hi
  | goto l => trivial
  | refuse m => trivial

theorem ex_ok (h : PlaceOK P E B) : ∀ n, SelfOK P E B (ex E n)
  | 0 => fun _ _ _ _ _ _ _ _ _ _ _ => trivial
  | n + 1 => step_ok h (ex_ok h n)

end
end Go.Proofs.YtcedalofcekdkaaGreatDoor.Ex
end
