/- The plain law: two claims that fit have the same numbers just where they are the same. -/
import Derived.Test.YtcedalofcekdkaaGreatDoorClaimV
import Derived.Test.YtcedalofcekdkaaGreatDoorEqA
import Derived.Test.YtcedalofcekdkaaGreatDoorWrA
import Derived.Test.YtcedalofcekdkaaGreatDoorEmpA
import Derived.Test.YtcedalofcekdkaaGreatDoorSizeA
import Derived.Test.YtcedalofcekdkaaGreatDoorSealA
set_option linter.unusedSimpArgs false
set_option linter.unusedVariables false
section
namespace Go.Proofs.YtcedalofcekdkaaGreatDoor

def Pre {α : Type} (enc : α → List Int) : Prop := ∀ a b r s, enc a ++ r = enc b ++ s → a = b ∧ r = s

theorem pre_list : Pre listEnc := fun a b r s h => by
  unfold listEnc at h
  rw [List.cons_append, List.cons_append, List.cons.injEq] at h
  exact List.append_inj h.2 (by have := h.1; omega)

theorem pre_name : Pre nameEnc := fun a b r s h => by
  unfold nameEnc at h
  rw [List.cons_append, List.cons_append, List.cons.injEq] at h
  have hs : a.data.toList.length = b.data.toList.length := by have := h.1; simp only [ByteArray.size] at this; simp; omega
  obtain ⟨h1, h2⟩ := List.append_inj h.2 (by rw [List.length_map, List.length_map]; exact hs)
  refine ⟨?_, h2⟩
  have h3 : a.data.toList = b.data.toList := by
    refine List.map_inj_right (f := fun b : UInt8 => (b.toNat : Int)) (fun x y e => ?_) |>.1 h1
    exact UInt8.toNat_inj.1 (by omega)
  cases a; cases b
  simp only at h3
  rw [Array.toList_inj.1 h3]

theorem pre_sig : Pre sigEnc := fun a b r s h => by
  unfold sigEnc at h
  rw [List.append_assoc, List.append_assoc] at h
  obtain ⟨h1, h2⟩ := pre_name _ _ _ _ h
  simp only [List.cons_append, List.nil_append, List.cons.injEq] at h2
  obtain ⟨h3, h4, h5⟩ := h2
  refine ⟨?_, h5⟩
  cases a with
  | mk n i z =>
    cases b with
    | mk n2 i2 z2 =>
      simp only at h1 h3 h4
      have : i = i2 := by cases i <;> cases i2 <;> simp at h3 <;> rfl
      rw [h1, this, h4]

theorem pre_flat {α : Type} {enc : α → List Int} (hp : Pre enc) : ∀ (xs ys : List α) (r s : List Int), xs.length = ys.length → (xs.map enc).flatten ++ r = (ys.map enc).flatten ++ s → xs = ys ∧ r = s
  | [], [], r, s, _, h => ⟨rfl, by simpa using h⟩
  | [], _ :: _, _, _, hl, _ => by simp at hl
  | _ :: _, [], _, _, hl, _ => by simp at hl
  | x :: xs, y :: ys, r, s, hl, h => by
    simp only [List.map_cons, List.flatten_cons, List.append_assoc] at h
    obtain ⟨h1, h2⟩ := hp _ _ _ _ h
    obtain ⟨h3, h4⟩ := pre_flat hp xs ys r s (by simpa using hl) h2
    exact ⟨by rw [h1, h3], h4⟩

theorem pre_sigs : Pre sigsEnc := fun a b r s h => by
  unfold sigsEnc at h
  rw [List.cons_append, List.cons_append, List.cons.injEq] at h
  exact pre_flat pre_sig a b r s (by have := h.1; omega) h.2

theorem pre_spot : Pre spotEnc := fun a b r s h => by
  unfold spotEnc at h
  simp only [List.append_assoc, List.cons_append, List.nil_append, List.cons.injEq] at h
  obtain ⟨h1, h2, h3⟩ := h
  obtain ⟨h4, h5⟩ := pre_list _ _ _ _ h3
  simp only [List.cons.injEq] at h5
  obtain ⟨h6, h7, h8⟩ := h5
  refine ⟨?_, h8⟩
  cases a; cases b
  simp only at h1 h2 h4 h6 h7
  rw [h1, h2, h4, h6, h7]

theorem pre_spots : Pre spotsEnc := fun a b r s h => by
  unfold spotsEnc at h
  rw [List.cons_append, List.cons_append, List.cons.injEq] at h
  exact pre_flat pre_spot a b r s (by have := h.1; omega) h.2

theorem pre_forms : ∀ (n : Nat) (xs ys : List FT) (r s : List Int), sz xs ≤ n → xs.length = ys.length → encF xs ++ r = encF ys ++ s → xs = ys ∧ r = s
  | _, [], [], r, s, _, _, h => ⟨rfl, by simpa [encF] using h⟩
  | _, [], _ :: _, _, _, _, hl, _ => by simp at hl
  | _, _ :: _, [], _, _, _, hl, _ => by simp at hl
  | 0, .node op name val bound args :: xs, _ :: _, _, _, hs, _, _ => by simp [sz] at hs
  | n + 1, .node op name val bound args :: xs, .node op2 name2 val2 bound2 args2 :: ys, r, s, hs, hl, h => by
    simp only [sz] at hs
    simp only [encF, List.cons_append, List.append_assoc, List.cons.injEq] at h
    obtain ⟨h1, h2⟩ := h
    obtain ⟨h3, h4⟩ := pre_name _ _ _ _ h2
    simp only [List.nil_append, List.cons_append, List.cons.injEq] at h4
    obtain ⟨h5, h6, h7, h8⟩ := h4
    obtain ⟨h9, h10⟩ := pre_forms n args args2 _ _ (by omega) (by omega) h8
    obtain ⟨h11, h12⟩ := pre_forms n xs ys r s (by omega) (by simpa using hl) h10
    exact ⟨by rw [h1, h3, h5, h6, h9, h11], h12⟩

theorem pre_form (f g : FT) (r s : List Int) (h : encF [f] ++ r = encF [g] ++ s) : f = g ∧ r = s := by
  obtain ⟨h1, h2⟩ := pre_forms _ [f] [g] r s (Nat.le_refl _) rfl h
  exact ⟨by simpa using h1, h2⟩

theorem ext_getD {α : Type} (d : α) {a b : List α} (hl : a.length = b.length) (h : ∀ i, i < a.length → a.getD i d = b.getD i d) : a = b := by
  refine List.ext_getElem hl fun i h1 h2 => ?_
  have := h i h1
  simpa [h1, h2] using this

theorem pairs_inj {a b a2 b2 : List Int} : ∀ k, pairs a b k = pairs a2 b2 k → ∀ i, i < k → a.getD i 0 = a2.getD i 0 ∧ b.getD i 0 = b2.getD i 0
  | 0, _, i, hi => absurd hi (Nat.not_lt_zero _)
  | k + 1, h, i, hi => by
    rw [pairs_succ, pairs_succ] at h
    obtain ⟨h1, h2⟩ := List.append_inj h (by rw [pairs_length, pairs_length])
    by_cases e : i = k
    · subst e
      simp only [List.cons.injEq, and_true] at h2
      exact h2
    · exact pairs_inj k h1 i (by omega)

def Square (n : Int) (l : List (List Int)) : Prop := ∀ i, i < l.length → ((l.getD i []).length : Int) = n

theorem ctrlRows_len {m : MealyD} (h : Square m.ins m.out) : ∀ k, k ≤ m.out.length → ((ctrlRows m k).length : Int) = 2 * m.ins * k
  | 0, _ => by simp [ctrlRows]
  | k + 1, hk => by
    rw [ctrlRows_succ, List.length_append, pairs_length]
    have h1 := ctrlRows_len h k (by omega)
    have h2 := h k (by omega)
    push_cast
    rw [h1, h2, Int.mul_add, Int.mul_one]

theorem ctrlRows_inj {m m2 : MealyD} (h : Square m.ins m.out) (h2 : Square m2.ins m2.out) (he : m.ins = m2.ins) (hl : m.out.length = m2.out.length) :
    ∀ k, k ≤ m.out.length → ctrlRows m k = ctrlRows m2 k → ∀ i, i < k → pairs (m.out.getD i []) (m.next.getD i []) (m.out.getD i []).length = pairs (m2.out.getD i []) (m2.next.getD i []) (m2.out.getD i []).length
  | 0, _, _, i, hi => absurd hi (Nat.not_lt_zero _)
  | k + 1, hk, e, i, hi => by
    rw [ctrlRows_succ, ctrlRows_succ] at e
    have l1 := ctrlRows_len h k (by omega)
    have l2 := ctrlRows_len h2 k (by omega)
    rw [← he] at l2
    obtain ⟨h3, h4⟩ := List.append_inj e (by omega)
    by_cases hik : i = k
    · subst hik; exact h4
    · exact ctrlRows_inj h h2 he hl k (by omega) h3 i (by omega)

theorem pre_ctrl {m m2 : MealyD} {r s : List Int} (hl : m.next.length = m.out.length) (hl2 : m2.next.length = m2.out.length) (q1 : Square m.ins m.out) (q2 : Square m.ins m.next) (q3 : Square m2.ins m2.out) (q4 : Square m2.ins m2.next)
    (h : ctrlEnc m ++ r = ctrlEnc m2 ++ s) : m = m2 ∧ r = s := by
  unfold ctrlEnc ctrlHead at h
  simp only [List.append_assoc, List.cons_append, List.nil_append, List.cons.injEq] at h
  obtain ⟨h1, h2, h3, h4, h5⟩ := h
  have hlo : m.out.length = m2.out.length := by omega
  have l1 := ctrlRows_len q1 m.out.length (Nat.le_refl _)
  have l2 := ctrlRows_len q3 m2.out.length (Nat.le_refl _)
  rw [← h1, ← hlo] at l2
  obtain ⟨h6, h7⟩ := List.append_inj h5 (by rw [← hlo]; omega)
  rw [← hlo] at h6
  have hp := ctrlRows_inj q1 q3 h1 hlo m.out.length (Nat.le_refl _) h6
  have hrow : ∀ i, i < m.out.length → m.out.getD i [] = m2.out.getD i [] ∧ m.next.getD i [] = m2.next.getD i [] := fun i hi => by
    have e := hp i hi
    have a1 := q1 i hi
    have a2 := q2 i (by omega)
    have a3 := q3 i (by omega)
    have a4 := q4 i (by omega)
    have len : (m.out.getD i []).length = (m2.out.getD i []).length := by omega
    rw [← len] at e
    have := pairs_inj _ e
    exact ⟨ext_getD 0 len fun j hj => (this j hj).1, ext_getD 0 (by omega) fun j hj => (this j (by omega)).2⟩
  refine ⟨?_, h7⟩
  have e1 : m.out = m2.out := ext_getD [] hlo fun i hi => (hrow i hi).1
  have e2 : m.next = m2.next := ext_getD [] (by omega) fun i hi => (hrow i (by omega)).2
  cases m; cases m2
  simp only at h1 h2 h3 e1 e2
  rw [h1, h2, h3, e1, e2]

theorem envRows_len {m : MooreD} (h : Square m.outs m.next) : ∀ k, k ≤ m.next.length → ((envRows m k).length : Int) = (1 + m.outs) * k
  | 0, _ => by simp [envRows]
  | k + 1, hk => by
    rw [envRows_succ, List.length_append, List.length_cons]
    have h1 := envRows_len h k (by omega)
    have h2 := h k (by omega)
    push_cast
    rw [h1, h2, Int.mul_add, Int.mul_one]
    omega

theorem envRows_inj {m m2 : MooreD} (h : Square m.outs m.next) (h2 : Square m2.outs m2.next) (he : m.outs = m2.outs) (hl : m.next.length = m2.next.length) :
    ∀ k, k ≤ m.next.length → envRows m k = envRows m2 k → ∀ i, i < k → m.inp.getD i 0 = m2.inp.getD i 0 ∧ m.next.getD i [] = m2.next.getD i []
  | 0, _, _, i, hi => absurd hi (Nat.not_lt_zero _)
  | k + 1, hk, e, i, hi => by
    rw [envRows_succ, envRows_succ] at e
    have l1 := envRows_len h k (by omega)
    have l2 := envRows_len h2 k (by omega)
    rw [← he] at l2
    obtain ⟨h3, h4⟩ := List.append_inj e (by omega)
    by_cases hik : i = k
    · subst hik
      simp only [List.cons.injEq] at h4
      exact h4
    · exact envRows_inj h h2 he hl k (by omega) h3 i (by omega)

theorem pre_env {m m2 : MooreD} {r s : List Int} (hl : m.next.length = m.inp.length) (hl2 : m2.next.length = m2.inp.length) (q1 : Square m.outs m.next) (q2 : Square m2.outs m2.next)
    (h : envEnc m ++ r = envEnc m2 ++ s) : m = m2 ∧ r = s := by
  unfold envEnc envHead at h
  simp only [List.append_assoc, List.cons_append, List.nil_append, List.cons.injEq] at h
  obtain ⟨h1, h2, h3, h4, h5⟩ := h
  have hlo : m.next.length = m2.next.length := by omega
  have l1 := envRows_len q1 m.next.length (Nat.le_refl _)
  have l2 := envRows_len q2 m2.next.length (Nat.le_refl _)
  rw [← h2, ← hlo] at l2
  obtain ⟨h6, h7⟩ := List.append_inj h5 (by rw [← hlo]; omega)
  rw [← hlo] at h6
  have hp := envRows_inj q1 q2 h2 hlo m.next.length (Nat.le_refl _) h6
  refine ⟨?_, h7⟩
  have e1 : m.inp = m2.inp := ext_getD 0 (by omega) fun i hi => (hp i (by omega)).1
  have e2 : m.next = m2.next := ext_getD [] hlo fun i hi => (hp i hi).2
  cases m; cases m2
  simp only at h1 h2 h3 e1 e2
  rw [h1, h2, h3, e1, e2]

theorem gameRows_pre (m m2 : GameD) : ∀ (k : Nat) (r s : List Int), gameRows m k ++ r = gameRows m2 k ++ s → (∀ i, i < k → m.owner.getD i 0 = m2.owner.getD i 0 ∧ m.prio.getD i 0 = m2.prio.getD i 0 ∧ m.succ.getD i [] = m2.succ.getD i []) ∧ r = s := by
  have one : Pre fun t : Int × Int × List Int => [t.1, t.2.1] ++ listEnc t.2.2 := fun a b r s h => by
    simp only [List.append_assoc, List.cons_append, List.nil_append, List.cons.injEq] at h
    obtain ⟨h1, h2, h3⟩ := h
    obtain ⟨h4, h5⟩ := pre_list _ _ _ _ h3
    refine ⟨?_, h5⟩
    obtain ⟨x, y, z⟩ := a
    obtain ⟨x2, y2, z2⟩ := b
    simp only at h1 h2 h4
    rw [h1, h2, h4]
  intro k r s h
  have h0 := pre_flat one ((List.range k).map fun i => (m.owner.getD i 0, m.prio.getD i 0, m.succ.getD i [])) ((List.range k).map fun i => (m2.owner.getD i 0, m2.prio.getD i 0, m2.succ.getD i [])) r s (by simp) (by rw [List.map_map, List.map_map]; exact h)
  refine ⟨fun i hi => ?_, h0.2⟩
  have := congrArg (fun l => l[i]?) h0.1
  simpa [hi] using this

theorem pre_region {m m2 : GameD} {l l2 : List (List Int)} {r s : List Int} (a1 : m.prio.length = m.owner.length) (a2 : m.succ.length = m.owner.length) (a3 : l.length = m.owner.length) (b1 : m2.prio.length = m2.owner.length) (b2 : m2.succ.length = m2.owner.length) (b3 : l2.length = m2.owner.length)
    (h : regionEnc m l ++ r = regionEnc m2 l2 ++ s) : m = m2 ∧ l = l2 ∧ r = s := by
  unfold regionEnc at h
  simp only [List.append_assoc, List.cons_append, List.cons.injEq] at h
  obtain ⟨h1, h2⟩ := h
  have hlo : m.owner.length = m2.owner.length := by omega
  rw [← hlo] at h2
  obtain ⟨h3, h4⟩ := gameRows_pre m m2 _ _ _ h2
  obtain ⟨h5, h6⟩ := pre_flat pre_list l l2 r s (by omega) h4
  refine ⟨?_, h5, h6⟩
  have e1 : m.owner = m2.owner := ext_getD 0 hlo fun i hi => (h3 i hi).1
  have e2 : m.prio = m2.prio := ext_getD 0 (by omega) fun i hi => (h3 i (by omega)).2.1
  have e3 : m.succ = m2.succ := ext_getD [] (by omega) fun i hi => (h3 i (by omega)).2.2
  cases m; cases m2
  simp only at e1 e2 e3
  rw [e1, e2, e3]
end Go.Proofs.YtcedalofcekdkaaGreatDoor
end

section
namespace Go.Proofs.YtcedalofcekdkaaGreatDoor

def claimEnc (c : ClaimD) : List Int :=
  c.kind :: (if c.kind = 3 then regionEnc c.game c.measure else
    sigsEnc c.sigs ++ (encF [c.form] ++ (if c.kind = 1 then ctrlEnc c.ctrl ++ spotsEnc c.spots else if c.kind = 2 then envEnc c.env ++ spotsEnc c.spots else
      listEnc c.letters ++ ((c.residuals.length : Int) :: encF c.residuals))))

def noCtrl : MealyD := ⟨0, 0, 0, [], []⟩
def noEnv : MooreD := ⟨0, 0, 0, [], []⟩
def noGame : GameD := ⟨[], [], []⟩

def CtrlOK (m : MealyD) : Prop := m.next.length = m.out.length ∧ Square m.ins m.out ∧ Square m.ins m.next
def EnvOK (m : MooreD) : Prop := m.next.length = m.inp.length ∧ Square m.outs m.next
def RegionOK (m : GameD) (l : List (List Int)) : Prop := m.prio.length = m.owner.length ∧ m.succ.length = m.owner.length ∧ l.length = m.owner.length

def Fits (c : ClaimD) : Prop :=
  (c.kind = 1 ∧ CtrlOK c.ctrl ∧ c.env = noEnv ∧ c.game = noGame ∧ c.measure = [] ∧ c.letters = [] ∧ c.residuals = []) ∨
  (c.kind = 2 ∧ EnvOK c.env ∧ c.ctrl = noCtrl ∧ c.game = noGame ∧ c.measure = [] ∧ c.letters = [] ∧ c.residuals = []) ∨
  (c.kind = 3 ∧ RegionOK c.game c.measure ∧ c.sigs = [] ∧ c.form = emptyF ∧ c.ctrl = noCtrl ∧ c.env = noEnv ∧ c.letters = [] ∧ c.residuals = [] ∧ c.spots = []) ∨
  (c.kind = 4 ∧ c.ctrl = noCtrl ∧ c.env = noEnv ∧ c.game = noGame ∧ c.measure = [] ∧ c.spots = [])

theorem claim_inj {c d : ClaimD} (hc : Fits c) (hd : Fits d) (h : claimEnc c = claimEnc d) : c = d := by
  unfold claimEnc at h
  rw [List.cons.injEq] at h
  obtain ⟨hk, h⟩ := h
  cases c with
  | mk kind sigs form ctrl env spots game measure letters residuals =>
  cases d with
  | mk kind2 sigs2 form2 ctrl2 env2 spots2 game2 measure2 letters2 residuals2 =>
  simp only at hk
  subst hk
  unfold Fits at hc hd
  simp only at hc hd h
  rcases hc with ⟨k1, q1, q2, q3, q4, q5, q6⟩ | ⟨k1, q1, q2, q3, q4, q5, q6⟩ | ⟨k1, q1, q2, q3, q4, q5, q6, q7, q8⟩ | ⟨k1, q2, q3, q4, q5, q6⟩
  · rcases hd with ⟨-, p1, p2, p3, p4, p5, p6⟩ | ⟨k2, -⟩ | ⟨k2, -⟩ | ⟨k2, -⟩
    · subst k1
      simp only [Int.reduceEq, ↓reduceIte] at h
      obtain ⟨h1, h2⟩ := pre_sigs _ _ _ _ h
      obtain ⟨h3, h4⟩ := pre_form _ _ _ _ h2
      obtain ⟨h5, h6⟩ := pre_ctrl q1.1 p1.1 q1.2.1 q1.2.2 p1.2.1 p1.2.2 h4
      obtain ⟨h7, -⟩ := pre_spots spots spots2 [] [] (by rw [List.append_nil, List.append_nil]; exact h6)
      rw [h1, h3, h5, h7, q2, q3, q4, q5, q6, p2, p3, p4, p5, p6]
    all_goals omega
  · rcases hd with ⟨k2, -⟩ | ⟨-, p1, p2, p3, p4, p5, p6⟩ | ⟨k2, -⟩ | ⟨k2, -⟩
    · omega
    · subst k1
      simp only [Int.reduceEq, ↓reduceIte] at h
      obtain ⟨h1, h2⟩ := pre_sigs _ _ _ _ h
      obtain ⟨h3, h4⟩ := pre_form _ _ _ _ h2
      obtain ⟨h5, h6⟩ := pre_env q1.1 p1.1 q1.2 p1.2 h4
      obtain ⟨h7, -⟩ := pre_spots spots spots2 [] [] (by rw [List.append_nil, List.append_nil]; exact h6)
      rw [h1, h3, h5, h7, q2, q3, q4, q5, q6, p2, p3, p4, p5, p6]
    all_goals omega
  · rcases hd with ⟨k2, -⟩ | ⟨k2, -⟩ | ⟨-, p1, p2, p3, p4, p5, p6, p7, p8⟩ | ⟨k2, -⟩
    · omega
    · omega
    · subst k1
      simp only [Int.reduceEq, ↓reduceIte] at h
      obtain ⟨h1, h2, -⟩ := pre_region (r := []) (s := []) q1.1 q1.2.1 q1.2.2 p1.1 p1.2.1 p1.2.2 (by rw [List.append_nil, List.append_nil]; exact h)
      rw [h1, h2, q2, q3, q4, q5, q6, q7, q8, p2, p3, p4, p5, p6, p7, p8]
    · omega
  · rcases hd with ⟨k2, -⟩ | ⟨k2, -⟩ | ⟨k2, -⟩ | ⟨-, p2, p3, p4, p5, p6⟩
    · omega
    · omega
    · omega
    · subst k1
      simp only [Int.reduceEq, ↓reduceIte] at h
      obtain ⟨h1, h2⟩ := pre_sigs _ _ _ _ h
      obtain ⟨h3, h4⟩ := pre_form _ _ _ _ h2
      obtain ⟨h5, h6⟩ := pre_list _ _ _ _ h4
      rw [List.cons.injEq] at h6
      obtain ⟨h7, -⟩ := pre_forms _ residuals residuals2 [] [] (Nat.le_refl _) (by have := h6.1; omega) (by rw [List.append_nil, List.append_nil]; exact h6.2)
      rw [h1, h3, h5, h7, q2, q3, q4, q5, q6, p2, p3, p4, p5, p6]
end Go.Proofs.YtcedalofcekdkaaGreatDoor
end

section
namespace Go.Proofs.YtcedalofcekdkaaGreatDoor
open Go.RowKit

theorem ctrl_ok {x x' : Bool} {m : MealyD} {nums nums' : List Int} (h : CtrlSays x x' m nums nums') : CtrlOK m := by
  refine ⟨h.len, fun i hi => ?_, fun i hi => ?_⟩
  · have h2 : i < m.next.length := by rw [h.len]; exact hi
    have := h.rows i m.out[i] m.next[i] (by simp [hi]) (by simp [h2])
    simpa [hi] using this.1
  · have h2 : i < m.out.length := by rw [← h.len]; exact hi
    have := h.rows i m.out[i] m.next[i] (by simp [h2]) (by simp [hi])
    simpa [hi] using this.2

theorem env_ok {x x' : Bool} {m : MooreD} {nums nums' : List Int} (h : EnvSays x x' m nums nums') : EnvOK m := by
  refine ⟨h.len, fun i hi => ?_⟩
  have := h.rows m.next[i] (List.getElem_mem hi)
  simpa [hi] using this

theorem region_ok {x x' : Bool} {m : GameD} {l : List (List Int)} {nums nums' : List Int} (h : RegionSays x x' m l nums nums') : RegionOK m l := ⟨h.prio, h.succ, h.len⟩

theorem wr_new (w : World) (B : Nat) (hB : B ≤ w.heap.size) : Wr (w.alloc (.cells #[.slice none 0 0, .bool false, .bool false] 118)) B w.heap.size none [] false false := by
  have hn := World.alloc_heap_new w (.cells #[.slice none 0 0, .bool false, .bool false] 118)
  refine ⟨hB, by simp, ⟨.slice none 0 0, by rw [World.cell?_alloc_new]; rfl, World.ownsRow_nil _ _ _ _, rfl⟩, by simp, by rw [World.cell?_alloc_new]; rfl, by rw [World.cell?_alloc_new]; rfl, fun j => ?_⟩
  generalize w.alloc (.cells #[.slice none 0 0, .bool false, .bool false] 118) = W at hn ⊢
  generalize w.heap.size = g at hn ⊢
  unfold World.frozen?
  rw [hn]
  simp
end Go.Proofs.YtcedalofcekdkaaGreatDoor
end

section
namespace Go.Proofs.YtcedalofcekdkaaGreatDoor
open Go.RowKit

structure Room (c : ClaimD) : Prop where
  sigs : c.sigs.length + ((c.sigs.map sigEnc).flatten).length ≤ 10000000
  form : (encF [c.form]).length ≤ 10000000
  ctrl : c.ctrl.out.length + (ctrlEnc c.ctrl).length ≤ 10000000
  env : c.env.next.length + (envEnc c.env).length ≤ 10000000
  spots : c.spots.length + ((c.spots.map spotEnc).flatten).length ≤ 10000000
  game : c.game.owner.length + c.measure.length + (regionEnc c.game c.measure).length ≤ 10000000
  letters : c.letters.length ≤ 10000000
  residuals : (encF c.residuals).length ≤ 10000000

def encPre (c : ClaimD) : List Int := c.kind :: (if c.kind = 3 then [] else sigsEnc c.sigs ++ encF [c.form])

theorem zeros_env {m : MooreD} (h : ∀ x ∈ [m.ins, m.outs, m.start, (m.inp.length : Int), (m.next.length : Int)], x = 0) : m = noEnv := by
  cases m with
  | mk a b d e f =>
    simp only [List.mem_cons, List.not_mem_nil, or_false, forall_eq_or_imp, forall_eq] at h
    obtain ⟨rfl, rfl, rfl, h4, h5⟩ := h
    have h4 : e = [] := List.length_eq_zero_iff.1 (by simpa using h4)
    have h5 : f = [] := List.length_eq_zero_iff.1 (by simpa using h5)
    subst h4 h5
    rfl
theorem zeros_ctrl {m : MealyD} (h : ∀ x ∈ [m.ins, m.outs, m.start, (m.out.length : Int), (m.next.length : Int)], x = 0) : m = noCtrl := by
  cases m with
  | mk a b d e f =>
    simp only [List.mem_cons, List.not_mem_nil, or_false, forall_eq_or_imp, forall_eq] at h
    obtain ⟨rfl, rfl, rfl, h4, h5⟩ := h
    have h4 : e = [] := List.length_eq_zero_iff.1 (by simpa using h4)
    have h5 : f = [] := List.length_eq_zero_iff.1 (by simpa using h5)
    subst h4 h5
    rfl
theorem zeros_game {m : GameD} {l : List (List Int)} (h : ∀ x ∈ [(m.owner.length : Int), (m.prio.length : Int), (m.succ.length : Int), (l.length : Int)], x = 0) : m = noGame ∧ l = [] := by
  cases m with
  | mk a b d =>
    simp only [List.mem_cons, List.not_mem_nil, or_false, forall_eq_or_imp, forall_eq] at h
    obtain ⟨h1, h2, h3, h4⟩ := h
    have h1 : a = [] := List.length_eq_zero_iff.1 (by simpa using h1)
    have h2 : b = [] := List.length_eq_zero_iff.1 (by simpa using h2)
    have h3 : d = [] := List.length_eq_zero_iff.1 (by simpa using h3)
    have h4 : l = [] := List.length_eq_zero_iff.1 (by simpa using h4)
    subst h1 h2 h3 h4
    exact ⟨rfl, rfl⟩
theorem zeros_word {l : List Int} {r : List FT} (h : ∀ x ∈ [(l.length : Int), (r.length : Int)], x = 0) : l = [] ∧ r = [] := by
  simp only [List.mem_cons, List.not_mem_nil, or_false, forall_eq_or_imp, forall_eq] at h
  exact ⟨List.length_eq_zero_iff.1 (by simpa using h.1), List.length_eq_zero_iff.1 (by simpa using h.2)⟩

def EncEnd (c : ClaimD) (f x : Bool) (nums : List Int) : Prop := f = true → x = false → Fits c ∧ nums = claimEnc c ∧ nums.any bad = false

theorem end1 {c : ClaimD} (hk : c.kind = 1) {x' : Bool} {nums' : List Int} {f : Bool}
    (hs : x' = false → CtrlSays ((encPre c).any bad) x' c.ctrl (encPre c) nums')
    (hf : f = true → c.env = noEnv ∧ (c.game = noGame ∧ c.measure = []) ∧ (c.letters = [] ∧ c.residuals = [])) :
    EncEnd c f (x' || (spotsEnc c.spots).any bad) (nums' ++ spotsEnc c.spots) := by
  intro h1 h2
  rw [Bool.or_eq_false_iff] at h2
  have hs := hs h2.1
  obtain ⟨e, ⟨g, m⟩, l, r⟩ := hf h1
  refine ⟨.inl ⟨hk, ctrl_ok hs, e, g, m, l, r⟩, ?_, ?_⟩
  · rw [hs.nums]; simp [encPre, claimEnc, hk]
  · rw [hs.nums, List.any_append, List.any_append, hs.x, hs.fit, h2.2]; rfl

theorem end2 {c : ClaimD} (hk : c.kind = 2) {x' : Bool} {nums' : List Int} {f : Bool}
    (hs : x' = false → EnvSays ((encPre c).any bad) x' c.env (encPre c) nums')
    (hf : f = true → c.ctrl = noCtrl ∧ (c.game = noGame ∧ c.measure = []) ∧ (c.letters = [] ∧ c.residuals = [])) :
    EncEnd c f (x' || (spotsEnc c.spots).any bad) (nums' ++ spotsEnc c.spots) := by
  intro h1 h2
  rw [Bool.or_eq_false_iff] at h2
  have hs := hs h2.1
  obtain ⟨e, ⟨g, m⟩, l, r⟩ := hf h1
  refine ⟨.inr (.inl ⟨hk, env_ok hs, e, g, m, l, r⟩), ?_, ?_⟩
  · rw [hs.nums]; simp [encPre, claimEnc, hk]
  · rw [hs.nums, List.any_append, List.any_append, hs.x, hs.fit, h2.2]; rfl

theorem end3 {c : ClaimD} (hk : c.kind = 3) {x' : Bool} {nums' : List Int} {f : Bool}
    (hs : x' = false → RegionSays ((encPre c).any bad) x' c.game c.measure (encPre c) nums')
    (hf : f = true → (c.sigs.length = 0 ∧ c.form = emptyF) ∧ c.ctrl = noCtrl ∧ c.env = noEnv ∧ (c.letters = [] ∧ c.residuals = []) ∧ c.spots.length = 0) :
    EncEnd c f x' nums' := by
  intro h1 h2
  have hs := hs h2
  obtain ⟨⟨s, fo⟩, a, b, ⟨l, r⟩, p⟩ := hf h1
  refine ⟨.inr (.inr (.inl ⟨hk, region_ok hs, List.length_eq_zero_iff.1 s, fo, a, b, l, r, List.length_eq_zero_iff.1 p⟩)), ?_, ?_⟩
  · rw [hs.nums]; simp [encPre, claimEnc, hk]
  · rw [hs.nums, List.any_append, hs.x, hs.fit]; rfl

theorem end4 {c : ClaimD} (hk : c.kind = 4) {f : Bool}
    (hf : f = true → c.ctrl = noCtrl ∧ c.env = noEnv ∧ (c.game = noGame ∧ c.measure = []) ∧ c.spots.length = 0) :
    EncEnd c f ((((encPre c).any bad || (listEnc c.letters).any bad) || [(c.residuals.length : Int)].any bad) || (encF c.residuals).any bad) (((encPre c ++ listEnc c.letters) ++ [(c.residuals.length : Int)]) ++ encF c.residuals) := by
  intro h1 h2
  obtain ⟨a, b, ⟨g, m⟩, p⟩ := hf h1
  refine ⟨.inr (.inr (.inr ⟨hk, a, b, g, m, List.length_eq_zero_iff.1 p⟩)), ?_, ?_⟩
  · simp [encPre, claimEnc, hk]
  · rw [List.any_append, List.any_append, List.any_append]; exact h2

theorem end5 {c : ClaimD} {x : Bool} {nums : List Int} : EncEnd c false x nums := fun h => by cases h

theorem two_set {W : World} {b : Nat} {a a' : Value} (h0 : W.cell? ⟨b, 0, none⟩ = some a) (h1 : W.cell? ⟨b, 1, none⟩ = some a') (v v' : Value) :
    ((W.setCell ⟨b, 0, none⟩ v).setCell ⟨b, 1, none⟩ v').cell? ⟨b, 0, none⟩ = some v ∧ ((W.setCell ⟨b, 0, none⟩ v).setCell ⟨b, 1, none⟩ v').cell? ⟨b, 1, none⟩ = some v' := by
  refine ⟨?_, ?_⟩
  · rw [World.cell?_setCell_other _ _ _ _ (by simp)]
    exact World.cell?_setCell_same _ _ _ (u := a) h0
  · exact World.cell?_setCell_same _ _ _ (u := a') ((World.cell?_setCell_other _ _ _ _ (by simp)).trans h1)

theorem res_new (w : World) (O : Obj) : ((w.alloc O).alloc (.cells #[.slice none 0 0, .int .i64 0] 30)).cell? ⟨w.heap.size + 1, 0, none⟩ = some (.slice none 0 0) ∧ ((w.alloc O).alloc (.cells #[.slice none 0 0, .int .i64 0] 30)).cell? ⟨w.heap.size + 1, 1, none⟩ = some (.int .i64 0) ∧
    ((w.alloc O).alloc (.cells #[.slice none 0 0, .int .i64 0] 30)).frozen? ⟨w.heap.size + 1, 0, none⟩ = false ∧ ((w.alloc O).alloc (.cells #[.slice none 0 0, .int .i64 0] 30)).frozen? ⟨w.heap.size + 1, 1, none⟩ = false := by
  have hs : (w.alloc O).heap.size = w.heap.size + 1 := by simp
  rw [← hs]
  generalize w.alloc O = W
  have hn := World.alloc_heap_new W (.cells #[.slice none 0 0, .int .i64 0] 30)
  refine ⟨by rw [World.cell?_alloc_new]; rfl, by rw [World.cell?_alloc_new]; rfl, ?_, ?_⟩ <;>
  · generalize W.alloc (.cells #[.slice none 0 0, .int .i64 0] 30) = V at hn ⊢
    unfold World.frozen?
    rw [hn]
    simp

theorem Below.kept {g B : Nat} {w0 w w' : World} {o o' : Option Nat} {nums : List Int} {x y : Bool} (hB : Below B w0 w) (h : Wr w B g o nums x y) (hs : B ≤ w.heap.size) (k : Kept g w o w' o') : Below B w0 w' :=
  hB.trans (k.below h.low hs (fun _ e => (h.own_lt _ e).1))

theorem row_form {w : World} {B e size n : Nat} {v : Value} {xs : List Value} (h : w.ownsRow B e size v n xs) (hne : v ≠ .slice none 0 0) : ∃ g cap, v = .slice (some ⟨g, 0, none⟩) n cap ∧ B ≤ g ∧ g < w.heap.size := by
  rcases h.2 with ⟨rfl, _⟩ | ⟨g, cap, cur, rfl, hB, hg, _⟩
  · exact absurd rfl hne
  · exact ⟨g, cap, rfl, hB, (Array.getElem?_eq_some_iff.1 hg).1⟩

theorem wr_row {w : World} {B g : Nat} {o : Option Nat} {nums : List Int} {x y : Bool} (h : Wr w B g o nums x y) (hne : nums ≠ []) :
    ∃ k cap, w.cell? ⟨g, 0, none⟩ = some (.slice (some ⟨k, 0, none⟩) nums.length cap) ∧ B ≤ k ∧ k < w.heap.size ∧ ∀ (j : Nat) (n : Int), nums[j]? = some n → w.cell? ⟨k, j, none⟩ = some (.int .i64 n) := by
  obtain ⟨v, hc, hr, -⟩ := h.row
  obtain ⟨k, cap, rfl, hk, hk2⟩ := row_form hr (by
    rintro rfl
    rcases hr.2 with ⟨-, e⟩ | ⟨_, _, _, e, -⟩
    · exact hne (List.length_eq_zero_iff.1 e)
    · cases e)
  refine ⟨k, cap, hc, hk, hk2, fun j n hj => ?_⟩
  rw [hr.cellAt j (by have := (List.getElem?_eq_some_iff.1 hj).1; omega)]
  simp [intsI, hj]

theorem wr_seal {w : World} {k cap : Nat} {nums : List Int} (hb : nums.any bad = false) (hlen : nums.length ≤ 20000)
    (hc : ∀ (j : Nat) (n : Int), nums[j]? = some n → w.cell? ⟨k, j, none⟩ = some (.int .i64 n)) :
    ∃ s : Int, Calls Tryz.prog 10 #[.slice (some ⟨k, 0, none⟩) nums.length cap] w fun e w' => e = .returned (.int .i64 s) ∧ w' = w := by
  have hin : ∀ x ∈ nums, 0 ≤ x ∧ x ≤ 65519 := fun x hx => by
    have := (List.any_eq_false.1 hb) x hx
    simp [bad] at this
    exact this
  refine ⟨_, seal_any k 0 nums.length cap (nums.map Int.toNat) w (by simp) (by omega) (fun j => ?_) (fun j hj => ?_)⟩
  · by_cases hj : j < nums.length
    · have := hin nums[j] (List.getElem_mem hj)
      simp [hj]; omega
    · simp [hj]
  · have := hin nums[j] (List.getElem_mem hj)
    rw [Nat.zero_add, hc j nums[j] (by simp [hj])]
    simp [hj]
    omega

theorem pre_len {c : ClaimD} (h : Room c) : (encPre c).length ≤ 20000010 := by
  have h1 := h.sigs
  have h2 := h.form
  unfold encPre
  split
  · simp
  · simp [sigsEnc] at *; omega
end Go.Proofs.YtcedalofcekdkaaGreatDoor
end

section
namespace Go.Proofs.YtcedalofcekdkaaGreatDoor
open Go.RowKit

structure Few (c : ClaimD) : Prop where
  sigs : c.sigs.length ≤ 1000000
  form : sz [c.form] ≤ 1000000
  letters : c.letters.length ≤ 1000000
  residuals : sz c.residuals ≤ 1000000
  c1 : c.ctrl.out.length ≤ 1000000
  c2 : ∀ r ∈ c.ctrl.out, r.length ≤ 1000000
  c3 : c.ctrl.next.length ≤ 1000000
  c4 : ∀ r ∈ c.ctrl.next, r.length ≤ 1000000
  e1 : c.env.inp.length ≤ 1000000
  e3 : c.env.next.length ≤ 1000000
  e4 : ∀ r ∈ c.env.next, r.length ≤ 1000000
  g1 : c.game.owner.length ≤ 1000000
  g2 : c.game.prio.length ≤ 1000000
  g3 : c.game.succ.length ≤ 1000000
  g4 : ∀ r ∈ c.game.succ, r.length ≤ 1000000
  m1 : c.measure.length ≤ 1000000
  m2 : ∀ r ∈ c.measure, r.length ≤ 1000000
  s1 : c.spots.length ≤ 1000000
  s2 : ∀ s ∈ c.spots, s.set.length ≤ 1000000

theorem small_of {n : List Int} (h : n.any bad = false) {k : Nat} (hk : (k : Int) ∈ n) : k ≤ 1000000 := by
  have := (List.any_eq_false.1 h) _ hk
  simp [bad] at this
  omega

theorem any_left {a b : List Int} (h : (a ++ b).any bad = false) : a.any bad = false := by rw [List.any_append, Bool.or_eq_false_iff] at h; exact h.1
theorem any_right {a b : List Int} (h : (a ++ b).any bad = false) : b.any bad = false := by rw [List.any_append, Bool.or_eq_false_iff] at h; exact h.2

theorem row_of {l : List (List Int)} {r : List Int} (h : r ∈ l) : ∃ i, i < l.length ∧ l.getD i [] = r := by
  obtain ⟨i, hi, e⟩ := List.getElem_of_mem h
  exact ⟨i, hi, by simp [hi, e]⟩

theorem few_ctrl {m : MealyD} (h : CtrlOK m) (hb : (ctrlEnc m).any bad = false) : m.out.length ≤ 1000000 ∧ (∀ r ∈ m.out, r.length ≤ 1000000) ∧ m.next.length ≤ 1000000 ∧ ∀ r ∈ m.next, r.length ≤ 1000000 := by
  have hh := any_left hb
  have h1 : m.out.length ≤ 1000000 := small_of hh (by simp [ctrlHead])
  have row : ∀ {l : List (List Int)}, Square m.ins l → ∀ r ∈ l, r.length ≤ 1000000 := fun hq r hr => by
    obtain ⟨i, hi, rfl⟩ := row_of hr
    exact small_of hh (by rw [hq i hi]; simp [ctrlHead])
  exact ⟨h1, row h.2.1, by rw [h.1]; exact h1, row h.2.2⟩

theorem few_env {m : MooreD} (h : EnvOK m) (hb : (envEnc m).any bad = false) : m.inp.length ≤ 1000000 ∧ m.next.length ≤ 1000000 ∧ ∀ r ∈ m.next, r.length ≤ 1000000 := by
  have hh := any_left hb
  have h1 : m.inp.length ≤ 1000000 := small_of hh (by simp [envHead])
  refine ⟨h1, by rw [h.1]; exact h1, fun r hr => ?_⟩
  obtain ⟨i, hi, rfl⟩ := row_of hr
  exact small_of hh (by rw [h.2 i hi]; simp [envHead])

theorem few_spots {l : List SpotD} (hb : (spotsEnc l).any bad = false) : l.length ≤ 1000000 ∧ ∀ s ∈ l, s.set.length ≤ 1000000 := by
  refine ⟨small_of hb (by simp [spotsEnc]), fun s hs => small_of hb ?_⟩
  unfold spotsEnc
  refine List.mem_cons_of_mem _ (List.mem_flatten.2 ⟨spotEnc s, List.mem_map.2 ⟨s, hs, rfl⟩, ?_⟩)
  simp [spotEnc, listEnc]

theorem few_region {m : GameD} {l : List (List Int)} (h : RegionOK m l) (hb : (regionEnc m l).any bad = false) :
    m.owner.length ≤ 1000000 ∧ m.prio.length ≤ 1000000 ∧ m.succ.length ≤ 1000000 ∧ (∀ r ∈ m.succ, r.length ≤ 1000000) ∧ l.length ≤ 1000000 ∧ ∀ r ∈ l, r.length ≤ 1000000 := by
  have hh := any_left hb
  have h1 : m.owner.length ≤ 1000000 := small_of hh (by simp)
  refine ⟨h1, by rw [h.1]; exact h1, by rw [h.2.1]; exact h1, fun r hr => ?_, by rw [h.2.2]; exact h1, fun r hr => ?_⟩
  · obtain ⟨i, hi, rfl⟩ := row_of hr
    refine small_of hh (List.mem_cons_of_mem _ ?_)
    unfold gameRows
    refine List.mem_flatten.2 ⟨gameRow m i, List.mem_map.2 ⟨i, List.mem_range.2 (by rw [← h.2.1]; exact hi), rfl⟩, ?_⟩
    simp [gameRow, listEnc]
  · refine small_of (any_right hb) (List.mem_flatten.2 ⟨listEnc r, List.mem_map.2 ⟨r, hr, rfl⟩, ?_⟩)
    simp [listEnc]

theorem few_of {c : ClaimD} (hf : Fits c) (hb : (claimEnc c).any bad = false) (hl : (claimEnc c).length ≤ 20000) : Few c := by
  cases c with
  | mk kind sigs form ctrl env spots game measure letters residuals =>
  unfold Fits at hf
  simp only at hf
  have sg : ∀ {r : List Int}, (sigsEnc sigs ++ (encF [form] ++ r)).any bad = false → (sigsEnc sigs ++ (encF [form] ++ r)).length ≤ 20000 → sigs.length ≤ 1000000 ∧ sz [form] ≤ 1000000 ∧ r.any bad = false ∧ r.length ≤ 20000 := fun h1 h2 => by
    have h3 := sz_enc [form]
    simp only [List.length_append] at h2
    exact ⟨small_of (any_left h1) (by simp [sigsEnc]), by omega, any_right (any_right h1), by omega⟩
  have tl : ∀ {k : Int} {r : List Int}, (k :: r).any bad = false → (k :: r).length ≤ 20000 → r.any bad = false ∧ r.length ≤ 20000 := fun h1 h2 => by
    rw [List.any_cons, Bool.or_eq_false_iff] at h1
    simp only [List.length_cons] at h2
    exact ⟨h1.2, by omega⟩
  unfold claimEnc at hb hl
  simp only at hb hl
  obtain ⟨hb, hl⟩ := tl hb hl
  rcases hf with ⟨rfl, q1, rfl, rfl, rfl, rfl, rfl⟩ | ⟨rfl, q1, rfl, rfl, rfl, rfl, rfl⟩ | ⟨rfl, q1, rfl, rfl, rfl, rfl, rfl, rfl, rfl⟩ | ⟨rfl, rfl, rfl, rfl, rfl, rfl⟩
  · rw [if_neg (by decide), if_pos rfl] at hb hl
    obtain ⟨a, b, hb, hl⟩ := sg hb hl
    have p1 := few_ctrl q1 (any_left hb)
    have p2 := few_spots (any_right hb)
    exact ⟨a, b, by simp, by simp [sz], p1.1, p1.2.1, p1.2.2.1, p1.2.2.2, by simp [noEnv], by simp [noEnv], by simp [noEnv], by simp [noGame], by simp [noGame], by simp [noGame], by simp [noGame], by simp, by simp, p2.1, p2.2⟩
  · rw [if_neg (by decide), if_neg (by decide), if_pos rfl] at hb hl
    obtain ⟨a, b, hb, hl⟩ := sg hb hl
    have p1 := few_env q1 (any_left hb)
    have p2 := few_spots (any_right hb)
    exact ⟨a, b, by simp, by simp [sz], by simp [noCtrl], by simp [noCtrl], by simp [noCtrl], by simp [noCtrl], p1.1, p1.2.1, p1.2.2, by simp [noGame], by simp [noGame], by simp [noGame], by simp [noGame], by simp, by simp, p2.1, p2.2⟩
  · rw [if_pos rfl] at hb hl
    have p1 := few_region q1 hb
    exact ⟨by simp, show sz [emptyF] ≤ 1000000 from by simp [sz, emptyF], by simp, by simp [sz], by simp [noCtrl], by simp [noCtrl], by simp [noCtrl], by simp [noCtrl], by simp [noEnv], by simp [noEnv], by simp [noEnv], p1.1, p1.2.1, p1.2.2.1, p1.2.2.2.1, p1.2.2.2.2.1, p1.2.2.2.2.2, by simp, by simp⟩
  · rw [if_neg (by decide), if_neg (by decide), if_neg (by decide)] at hb hl
    obtain ⟨a, b, hb, hl⟩ := sg hb hl
    have h3 := sz_enc residuals
    simp only [List.length_append, List.length_cons] at hl
    exact ⟨a, b, small_of (any_left hb) (by simp [listEnc]), show sz residuals ≤ 1000000 from by omega, by simp [noCtrl], by simp [noCtrl], by simp [noCtrl], by simp [noCtrl], by simp [noEnv], by simp [noEnv], by simp [noEnv], by simp [noGame], by simp [noGame], by simp [noGame], by simp [noGame], by simp, by simp, by simp, by simp⟩

theorem claim_ext {c d : ClaimD} (h0 : c.kind = d.kind) (h1 : c.sigs = d.sigs) (h2 : c.form = d.form) (h3 : c.letters = d.letters) (h4 : c.residuals = d.residuals) (h5 : c.ctrl = d.ctrl) (h6 : c.env = d.env) (h7 : c.game = d.game) (h8 : c.measure = d.measure) (h9 : c.spots = d.spots) : c = d := by
  cases c; cases d
  simp only at h0 h1 h2 h3 h4 h5 h6 h7 h8 h9
  subst h0 h1 h2 h3 h4 h5 h6 h7 h8 h9
  rfl
end Go.Proofs.YtcedalofcekdkaaGreatDoor
end
