/- The executor is sound, part 1: what it answers is what the machine does. -/
import Derived.Test.YtcedalofcekdkaaGreatDoorExA
import Derived.RangeFuncIn
import Derived.Below
set_option linter.unusedSimpArgs false
set_option linter.unusedVariables false
section
namespace Go.Proofs.YtcedalofcekdkaaGreatDoor.Ex

structure Loc where
  b : Nat
  s : Nat
  t : Nat

structure Ren where
  loc : Nat → Nat → Option Loc
  tok : Nat → Value

def bytes (l : List Nat) : ByteArray := ⟨(l.map UInt8.ofNat).toArray⟩

mutual
inductive VR (ρ : Ren) : AV → Value → Prop
  | bool (b : Bool) : VR ρ (.bool b) (.bool b)
  | int (k : IntKind) (n : Int) : VR ρ (.int k n) (.int k n)
  | str (l : List Nat) : VR ρ (.str l) (.string (bytes l))
  | nilp : VR ρ .nilp (.pointer none)
  | ptr (g m o : Nat) (L : Loc) (h : ρ.loc g m = some L) : VR ρ (.ptr g m o) (.pointer (some ⟨L.b, L.s + o, none⟩))
  | nils : VR ρ .nils (.slice none 0 0)
  | sl (g m o n c : Nat) (L : Loc) (h : ρ.loc g m = some L) : VR ρ (.sl g m o n c) (.slice (some ⟨L.b, L.s + o, none⟩) n c)
  | su (g m o n z : Nat) (L : Loc) (h : ρ.loc g m = some L) (hz : 0 < z) (hc : L.s + o + n * z ≤ L.t) :
      VR ρ (.su g m o n z) (.slice (some ⟨L.b, L.s + o, none⟩) n ((L.t - L.s - o) / z))
  | sr (g m o n z : Nat) (L : Loc) (h : ρ.loc g m = some L) (hz : 0 < z) (hn : 0 < n) (hc : L.s + o + n * z ≤ L.t) :
      VR ρ (.sr g m o n z) (.slice (some ⟨L.b, if (L.t - L.s - o) / z = n then L.s + o else L.s + o + n * z, none⟩) 0 ((L.t - L.s - o) / z - n))
  | nilm : VR ρ .nilm (.map none)
  | map (g : Nat) (L : Loc) (h : ρ.loc g 0 = some L) : VR ρ (.map g) (.map (some L.b))
  | nilf : VR ρ .nilf .nilFunc
  | func (f : Fn) (a b : List AV) (x y : List Value) (hf : ∀ l, f ≠ .yield l) (ha : VRL ρ a x) (hb : VRL ρ b y) : VR ρ (.func f a b) (.func f x.toArray y.toArray)
  | yield (l : Nat) (a b : List AV) (x y : List Value) (L : Loc) (h : ρ.loc l 0 = some L) (ha : VRL ρ a x) (hb : VRL ρ b y) :
      VR ρ (.func (.yield l) a b) (.func (.yield L.b) x.toArray y.toArray)
  | nili : VR ρ .nili .nilIface
  | iface (t : Nat) (v : AV) (x : Value) (h : VR ρ v x) : VR ρ (.iface t v) (.iface t x)
  | agg (l : List AV) (x : List Value) (h : VRL ρ l x) : VR ρ (.agg l) (.agg x.toArray)
  | tup (l : List AV) (x : List Value) (h : VRL ρ l x) : VR ρ (.tup l) (.tuple x.toArray)
  | tok (i : Nat) : VR ρ (.tok i) (ρ.tok i)
inductive VRL (ρ : Ren) : List AV → List Value → Prop
  | nil : VRL ρ [] []
  | cons (v : AV) (x : Value) (vs : List AV) (xs : List Value) (h : VR ρ v x) (hs : VRL ρ vs xs) : VRL ρ (v :: vs) (x :: xs)
end

structure Ren.le (ρ ρ' : Ren) : Prop where
  loc : ∀ g m L, ρ.loc g m = some L → ρ'.loc g m = some L
  tok : ρ'.tok = ρ.tok

theorem Ren.le.refl (ρ : Ren) : ρ.le ρ := ⟨fun _ _ _ h => h, rfl⟩
theorem Ren.le.trans {a b c : Ren} (h : a.le b) (k : b.le c) : a.le c := ⟨fun g m L x => k.loc g m L (h.loc g m L x), k.tok.trans h.tok⟩

mutual
theorem VR.mono {ρ ρ' : Ren} (hle : ρ.le ρ') : ∀ {v : AV} {x : Value}, VR ρ v x → VR ρ' v x
  | _, _, .bool b => .bool b
  | _, _, .int k n => .int k n
  | _, _, .str l => .str l
  | _, _, .nilp => .nilp
  | _, _, .ptr g m o L h => .ptr g m o L (hle.loc _ _ _ h)
  | _, _, .nils => .nils
  | _, _, .sl g m o n c L h => .sl g m o n c L (hle.loc _ _ _ h)
  | _, _, .su g m o n z L h hz hc => .su g m o n z L (hle.loc _ _ _ h) hz hc
  | _, _, .sr g m o n z L h hz hn hc => .sr g m o n z L (hle.loc _ _ _ h) hz hn hc
  | _, _, .nilm => .nilm
  | _, _, .map g L h => .map g L (hle.loc _ _ _ h)
  | _, _, .nilf => .nilf
  | _, _, .func f a b x y hf ha hb => .func f a b x y hf (VRL.mono hle ha) (VRL.mono hle hb)
  | _, _, .yield l a b x y L h ha hb => .yield l a b x y L (hle.loc _ _ _ h) (VRL.mono hle ha) (VRL.mono hle hb)
  | _, _, .nili => .nili
  | _, _, .iface t v x h => .iface t v x (VR.mono hle h)
  | _, _, .agg l x h => .agg l x (VRL.mono hle h)
  | _, _, .tup l x h => .tup l x (VRL.mono hle h)
  | _, _, .tok i => by rw [← congrFun hle.tok i]; exact .tok i
theorem VRL.mono {ρ ρ' : Ren} (hle : ρ.le ρ') : ∀ {v : List AV} {x : List Value}, VRL ρ v x → VRL ρ' v x
  | _, _, .nil => .nil
  | _, _, .cons v x vs xs h hs => .cons v x vs xs (VR.mono hle h) (VRL.mono hle hs)
end

theorem VRL.length {ρ : Ren} : ∀ {v : List AV} {x : List Value}, VRL ρ v x → v.length = x.length
  | _, _, .nil => rfl
  | _, _, .cons _ _ _ _ _ hs => by simp [hs.length]

theorem VRL.get {ρ : Ren} : ∀ {v : List AV} {x : List Value}, VRL ρ v x → ∀ {i : Nat} {a : AV}, v[i]? = some a → ∃ y, x[i]? = some y ∧ VR ρ a y
  | _, _, .nil, i, a, h => by simp at h
  | _, _, .cons v x vs xs h hs, 0, a, e => by simp at e; subst e; exact ⟨x, rfl, h⟩
  | _, _, .cons v x vs xs h hs, i + 1, a, e => by simpa using hs.get (by simpa using e)

theorem VRL.append {ρ : Ren} : ∀ {a b : List AV} {x y : List Value}, VRL ρ a x → VRL ρ b y → VRL ρ (a ++ b) (x ++ y)
  | _, _, _, _, .nil, h => h
  | _, _, _, _, .cons v x vs xs h hs, k => .cons v x _ _ h (hs.append k)

theorem VRL.take {ρ : Ren} : ∀ {a : List AV} {x : List Value} (n : Nat), VRL ρ a x → VRL ρ (a.take n) (x.take n)
  | _, _, 0, _ => by simpa using .nil
  | _, _, n + 1, .nil => by simpa using .nil
  | _, _, n + 1, .cons v x vs xs h hs => by simpa using .cons v x _ _ h (hs.take n)

theorem VRL.drop {ρ : Ren} : ∀ {a : List AV} {x : List Value} (n : Nat), VRL ρ a x → VRL ρ (a.drop n) (x.drop n)
  | _, _, 0, h => by simpa using h
  | _, _, n + 1, .nil => by simpa using .nil
  | _, _, n + 1, .cons v x vs xs h hs => by simpa using hs.drop n

theorem VRL.of_get {ρ : Ren} : ∀ {v : List AV} {x : List Value}, v.length = x.length → (∀ (i : Nat) a y, v[i]? = some a → x[i]? = some y → VR ρ a y) → VRL ρ v x
  | [], [], _, _ => .nil
  | [], _ :: _, h, _ => by simp at h
  | _ :: _, [], h, _ => by simp at h
  | a :: v, y :: x, h, k => .cons a y v x (k 0 a y rfl rfl) (.of_get (by simpa using h) fun i b z hb hz => k (i + 1) b z (by simpa using hb) (by simpa using hz))

theorem lenL_eq {α : Type} (l : List α) : lenL l = l.length := by
  induction l with
  | nil => rfl
  | cons x l ih => simp [lenL]

theorem dropL_eq {α : Type} : ∀ (n : Nat) (l : List α), dropL n l = l.drop n
  | 0, l => rfl
  | n + 1, [] => by simp [dropL]
  | n + 1, _ :: l => by simpa [dropL] using dropL_eq n l

theorem takeL_eq {α : Type} : ∀ (n : Nat) (l r : List α), takeL n l = some r → r = l.take n ∧ n ≤ l.length
  | 0, l, r, h => by simp [takeL] at h; subst h; simp
  | n + 1, [], r, h => by simp [takeL] at h
  | n + 1, x :: l, r, h => by
    simp only [takeL] at h
    cases e : takeL n l with
    | none => simp [e] at h
    | some r' =>
      simp [e] at h
      obtain ⟨h1, h2⟩ := takeL_eq n l r' e
      subst h; subst h1
      exact ⟨by simp, by simp; omega⟩

theorem zipOver_eq {α : Type} : ∀ (vs l r : List α), overL.zipOver vs l = some r → r = vs ++ l.drop vs.length ∧ vs.length ≤ l.length
  | [], l, r, h => by simp [overL.zipOver] at h; subst h; simp
  | _ :: _, [], r, h => by simp [overL.zipOver] at h
  | v :: vs, x :: l, r, h => by
    simp only [overL.zipOver] at h
    cases e : overL.zipOver vs l with
    | none => simp [e] at h
    | some r' =>
      simp [e] at h
      obtain ⟨h1, h2⟩ := zipOver_eq vs l r' e
      subst h; subst h1
      exact ⟨by simp, by simp; omega⟩

theorem overL_eq {α : Type} (vs : List α) : ∀ (n : Nat) (l r : List α), overL vs n l = some r → r = l.take n ++ vs ++ l.drop (n + vs.length) ∧ (vs = [] ∨ n + vs.length ≤ l.length)
  | 0, l, r, h => by
    cases vs with
    | nil => simp [overL] at h; subst h; simp
    | cons v vs =>
      have := zipOver_eq (v :: vs) l r (by simpa [overL] using h)
      obtain ⟨h1, h2⟩ := this
      subst h1
      exact ⟨by simp, .inr (by simpa using h2)⟩
  | n + 1, [], r, h => by
    cases vs with
    | nil => simp [overL] at h; subst h; simp
    | cons v vs => simp [overL] at h
  | n + 1, x :: l, r, h => by
    simp only [overL] at h
    cases e : overL vs n l with
    | none => simp [e] at h
    | some r' =>
      simp [e] at h
      obtain ⟨h1, h2⟩ := overL_eq vs n l r' e
      subst h; subst h1
      refine ⟨by simp [Nat.add_right_comm], h2.imp id fun h => by simp; omega⟩

theorem appL_eq (a b : List AV) : appL a b = a ++ b := by
  induction a with
  | nil => rfl
  | cons x a ih => simp [appL, ih]

theorem natsApp_eq (a b : List Nat) : natsApp a b = a ++ b := by
  induction a with
  | nil => rfl
  | cons x a ih => simp [natsApp, ih]

theorem nth_eq {α : Type} : ∀ (l : List α) (n : Nat), nth l n = l[n]?
  | [], _ => by simp [nth]
  | _ :: _, 0 => by simp [nth]
  | _ :: l, n + 1 => by simpa [nth] using nth_eq l n

def Pos.val : Pos → Nat
  | .h => 0
  | .o p => 2 * p.val + 1
  | .i p => 2 * p.val + 2

theorem val_pathG : ∀ (d n : Nat), n < 2 ^ d → (pathG d n).val = n
  | 0, n, h => by simp at h; subst h; rfl
  | d + 1, 0, _ => rfl
  | d + 1, n + 1, h => by
    have hp : 2 ^ (d + 1) = 2 * 2 ^ d := by rw [Nat.pow_succ]; omega
    have h2 : n / 2 < 2 ^ d := by omega
    simp only [pathG]
    cases hb : Nat.beq (n % 2) 0 with
    | true =>
      have : n % 2 = 0 := Nat.eq_of_beq_eq_true hb
      simp only [Pos.val, val_pathG d (n / 2) h2]; omega
    | false =>
      have : n % 2 ≠ 0 := fun e => by rw [e] at hb; simp at hb
      simp only [Pos.val, val_pathG d (n / 2) h2]; omega

theorem val_pathOf (n : Nat) : (pathOf n).val = n := by
  unfold pathOf
  cases h : Nat.blt n 4194303 with
  | true =>
    have : n < 4194303 := by simp [Nat.blt] at h; omega
    exact val_pathG 22 n (by omega)
  | false => exact val_pathG n n Nat.lt_two_pow_self

theorem Tr.at_put {α : Type} (x : Option α) : ∀ (p q : Pos) (t : Tr α), Tr.at_ q (Tr.put x p t) = if q = p then x else Tr.at_ q t
  | .h, .h, .lf => by simp [Tr.at_lf, Tr.at_h, Tr.at_o, Tr.at_i, Tr.put_h_lf, Tr.put_h, Tr.put_o_lf, Tr.put_o, Tr.put_i_lf, Tr.put_i]
  | .h, .h, .nd _ _ _ => by simp [Tr.at_lf, Tr.at_h, Tr.at_o, Tr.at_i, Tr.put_h_lf, Tr.put_h, Tr.put_o_lf, Tr.put_o, Tr.put_i_lf, Tr.put_i]
  | .h, .o q, .lf => by simp [Tr.at_lf, Tr.at_h, Tr.at_o, Tr.at_i, Tr.put_h_lf, Tr.put_h, Tr.put_o_lf, Tr.put_o, Tr.put_i_lf, Tr.put_i]
  | .h, .o q, .nd _ _ _ => by simp [Tr.at_lf, Tr.at_h, Tr.at_o, Tr.at_i, Tr.put_h_lf, Tr.put_h, Tr.put_o_lf, Tr.put_o, Tr.put_i_lf, Tr.put_i]
  | .h, .i q, .lf => by simp [Tr.at_lf, Tr.at_h, Tr.at_o, Tr.at_i, Tr.put_h_lf, Tr.put_h, Tr.put_o_lf, Tr.put_o, Tr.put_i_lf, Tr.put_i]
  | .h, .i q, .nd _ _ _ => by simp [Tr.at_lf, Tr.at_h, Tr.at_o, Tr.at_i, Tr.put_h_lf, Tr.put_h, Tr.put_o_lf, Tr.put_o, Tr.put_i_lf, Tr.put_i]
  | .o p, .h, .lf => by simp [Tr.at_lf, Tr.at_h, Tr.at_o, Tr.at_i, Tr.put_h_lf, Tr.put_h, Tr.put_o_lf, Tr.put_o, Tr.put_i_lf, Tr.put_i]
  | .o p, .h, .nd _ _ _ => by simp [Tr.at_lf, Tr.at_h, Tr.at_o, Tr.at_i, Tr.put_h_lf, Tr.put_h, Tr.put_o_lf, Tr.put_o, Tr.put_i_lf, Tr.put_i]
  | .o p, .o q, .lf => by simp [Tr.at_lf, Tr.at_h, Tr.at_o, Tr.at_i, Tr.put_h_lf, Tr.put_h, Tr.put_o_lf, Tr.put_o, Tr.put_i_lf, Tr.put_i, Tr.at_put x p q]
  | .o p, .o q, .nd _ _ _ => by simp [Tr.at_lf, Tr.at_h, Tr.at_o, Tr.at_i, Tr.put_h_lf, Tr.put_h, Tr.put_o_lf, Tr.put_o, Tr.put_i_lf, Tr.put_i, Tr.at_put x p q]
  | .o p, .i q, .lf => by simp [Tr.at_lf, Tr.at_h, Tr.at_o, Tr.at_i, Tr.put_h_lf, Tr.put_h, Tr.put_o_lf, Tr.put_o, Tr.put_i_lf, Tr.put_i]
  | .o p, .i q, .nd _ _ _ => by simp [Tr.at_lf, Tr.at_h, Tr.at_o, Tr.at_i, Tr.put_h_lf, Tr.put_h, Tr.put_o_lf, Tr.put_o, Tr.put_i_lf, Tr.put_i]
  | .i p, .h, .lf => by simp [Tr.at_lf, Tr.at_h, Tr.at_o, Tr.at_i, Tr.put_h_lf, Tr.put_h, Tr.put_o_lf, Tr.put_o, Tr.put_i_lf, Tr.put_i]
  | .i p, .h, .nd _ _ _ => by simp [Tr.at_lf, Tr.at_h, Tr.at_o, Tr.at_i, Tr.put_h_lf, Tr.put_h, Tr.put_o_lf, Tr.put_o, Tr.put_i_lf, Tr.put_i]
  | .i p, .o q, .lf => by simp [Tr.at_lf, Tr.at_h, Tr.at_o, Tr.at_i, Tr.put_h_lf, Tr.put_h, Tr.put_o_lf, Tr.put_o, Tr.put_i_lf, Tr.put_i]
  | .i p, .o q, .nd _ _ _ => by simp [Tr.at_lf, Tr.at_h, Tr.at_o, Tr.at_i, Tr.put_h_lf, Tr.put_h, Tr.put_o_lf, Tr.put_o, Tr.put_i_lf, Tr.put_i]
  | .i p, .i q, .lf => by simp [Tr.at_lf, Tr.at_h, Tr.at_o, Tr.at_i, Tr.put_h_lf, Tr.put_h, Tr.put_o_lf, Tr.put_o, Tr.put_i_lf, Tr.put_i, Tr.at_put x p q]
  | .i p, .i q, .nd _ _ _ => by simp [Tr.at_lf, Tr.at_h, Tr.at_o, Tr.at_i, Tr.put_h_lf, Tr.put_h, Tr.put_o_lf, Tr.put_o, Tr.put_i_lf, Tr.put_i, Tr.at_put x p q]

theorem Tr.get_put {α : Type} (t : Tr α) (n m : Nat) (x : Option α) : (Tr.put x (pathOf n) t).get m = if m = n then x else t.get m := by
  unfold Tr.get
  rw [Tr.at_put]
  by_cases h : m = n
  · subst h; simp
  · have : pathOf m ≠ pathOf n := fun e => h (by rw [← val_pathOf m, e, val_pathOf])
    simp [h, this]

@[simp] theorem Tr.get_lf {α : Type} (n : Nat) : (Tr.lf : Tr α).get n = none := by unfold Tr.get; cases pathOf n <;> rfl

end Go.Proofs.YtcedalofcekdkaaGreatDoor.Ex
end

section
namespace Go.Proofs.YtcedalofcekdkaaGreatDoor.Ex

structure MemR (ρ : Ren) (w : World) (ty : Nat) (L : Loc) (x : Mem) (c : Array Value) (fz : Nat × Nat) : Prop where
  blk : w.heap[L.b]? = some (.cells c ty fz)
  len : L.s + x.cs.length ≤ L.t
  lim : L.t ≤ c.size
  fx : x.fx = true → L.s = 0 ∧ L.t = x.cs.length ∧ c.size = x.cs.length
  val : ∀ (i : Nat) (v : AV), x.cs[i]? = some v → ∃ y, c[L.s + i]? = some y ∧ VR ρ v y
  soft : ∀ o : Nat, o < c.size → ¬ (fz.1 ≤ o ∧ o < fz.2)

def EntsR (ρ : Ren) : List (AV × AV × Nat) → List MapEntry → Prop
  | [], [] => True
  | (k, v, b) :: es, e :: fs => VR ρ k e.key ∧ VR ρ v e.val ∧ e.born = b ∧ EntsR ρ es fs
  | _, _ => False

def LS.st : LS → LoopState
  | .ready => .ready
  | .busy => .busy
  | .done => .done
  | .exhausted => .exhausted

structure TR (ρ : Ren) (ntm : Nat) (tm : Tr AV) (tmps : Array Value) : Prop where
  size : ntm ≤ tmps.size
  val : ∀ (t : Nat) (v : AV), tm.get t = some v → ∃ x, tmps[t]? = some x ∧ VR ρ v x

def memsOf : GO → List Nat
  | .cells _ _ ms => ms.map (·.m)
  | _ => [0]

def ObjR (ρ : Ren) (w : World) (g : Nat) : GO → Prop
  | .cells ty hw ms =>
    (∀ x, x ∈ ms → x.rel + x.cs.length ≤ hw ∧ ∃ L c fz, ρ.loc g x.m = some L ∧ MemR ρ w ty L x c fz) ∧
    (∀ x y, x ∈ ms → y ∈ ms → ∀ L M, ρ.loc g x.m = some L → ρ.loc g y.m = some M → L.b = M.b → x = y ∨ L.s = L.t ∨ M.s = M.t ∨ L.s + y.rel = M.s + x.rel) ∧
    (∀ x y, x ∈ ms → y ∈ ms → x.m = y.m → x = y) ∧
    (∀ x y, x ∈ ms → y ∈ ms → x.fx = true → x = y)
  | .map es clk => ∃ L fs, ρ.loc g 0 = some L ∧ w.heap[L.b]? = some (.map fs clk) ∧ EntsR ρ es fs.toList
  | .iterM mp since seen last => ∃ L r, ρ.loc g 0 = some L ∧ L.s = 0 ∧ w.heap[L.b]? = some (.mapIter r since seen.toArray last) ∧
      (match mp with | none => r = none | some h => ∃ M, ρ.loc h 0 = some M ∧ r = some M.b)
  | .loop s pend _ ntm tm ps asg body d => ∃ L M f tmps, ρ.loc g 0 = some L ∧ ρ.loc d 0 = some M ∧
      w.heap[L.b]? = some (.loop { state := s.st, pending := pend, fn := f, tmps := tmps, params := ps.toArray, assign := asg, body := body, defers := M.b }) ∧ TR ρ ntm tm tmps
  | .defd => ∃ L, ρ.loc g 0 = some L ∧ w.heap[L.b]? = some (.deferred (some []))

structure HR (E : Env) (B : Nat) (ρ : Ren) (hp : Tr GO) (nx : Nat) (w : World) : Prop where
  fresh : ∀ g m L, ρ.loc g m = some L → g < nx ∧ m < nx
  one : ∀ v, (ρ.tok v).oneCell' = true
  low : NG ≤ nx
  base : B ≤ w.heap.size
  above : ∀ g m L, NG ≤ g → ρ.loc g m = some L → B ≤ L.b
  glob : ∀ g, g < NG → ∃ t, ρ.loc g 0 = some ⟨g, 0, t⟩
  gcell : ∀ g cs, g < NG → E.glob g = some cs → ∃ c ty fz, w.heap[g]? = some (.cells c ty fz) ∧ g < B ∧ ∀ (i : Nat) (v : AV), cs[i]? = some v → ∃ y, c[i]? = some y ∧ VR ρ v y
  obj : ∀ g o, hp.get g = some o → NG ≤ g ∧ g < nx ∧ ObjR ρ w g o
  sep : ∀ g h o p, hp.get g = some o → hp.get h = some p → g ≠ h → ∀ m n L M, m ∈ memsOf o → n ∈ memsOf p → ρ.loc g m = some L → ρ.loc h n = some M → L.b ≠ M.b

def Names (ρ : Ren) (hp : Tr GO) (r : Nat) : Prop := ∃ g o m L, hp.get g = some o ∧ m ∈ memsOf o ∧ ρ.loc g m = some L ∧ L.b = r

structure Ev (ρ : Ren) (hp : Tr GO) (nx : Nat) (w : World) (ρ' : Ren) (hp' : Tr GO) (nx' : Nat) (w' : World) : Prop where
  le : ρ.le ρ'
  nxle : nx ≤ nx'
  only : ∀ g m L, ρ'.loc g m = some L → ρ.loc g m = some L ∨ nx ≤ g ∨ nx ≤ m
  os : w'.os = w.os
  tape : w'.tape = w.tape
  output : w'.output = w.output
  size : w.heap.size ≤ w'.heap.size
  frame : ∀ r, r < w.heap.size → ¬ Names ρ hp r → w'.heap[r]? = w.heap[r]?
  img : ∀ r, Names ρ' hp' r → w.heap.size ≤ r ∨ Names ρ hp r

theorem Ev.refl (ρ : Ren) (hp : Tr GO) (nx : Nat) (w : World) : Ev ρ hp nx w ρ hp nx w := ⟨.refl _, Nat.le_refl _, fun _ _ _ h => .inl h, rfl, rfl, rfl, Nat.le_refl _, fun _ _ _ => rfl, fun _ h => .inr h⟩

theorem Ev.trans {a : Ren} {ha : Tr GO} {n1 n2 n3 : Nat} {u : World} {b : Ren} {hb : Tr GO} {v : World} {c : Ren} {hc : Tr GO} {w : World}
    (h : Ev a ha n1 u b hb n2 v) (k : Ev b hb n2 v c hc n3 w) : Ev a ha n1 u c hc n3 w := by
  refine ⟨h.le.trans k.le, Nat.le_trans h.nxle k.nxle, fun g m L hL => ?_, k.os.trans h.os, k.tape.trans h.tape, k.output.trans h.output, Nat.le_trans h.size k.size, fun r hr hn => ?_, fun r hr => ?_⟩
  · have := h.nxle
    rcases k.only g m L hL with x | x | x
    · exact h.only g m L x
    · exact .inr (.inl (by omega))
    · exact .inr (.inr (by omega))
  · rw [k.frame r (Nat.lt_of_lt_of_le hr h.size) fun hh => ?_, h.frame r hr hn]
    rcases h.img r hh with x | x
    · omega
    · exact hn x
  · rcases k.img r hr with x | x
    · exact .inl (Nat.le_trans h.size x)
    · exact h.img r x

structure Inv (E : Env) (B : Nat) (ρ : Ren) (st : St) (a : Act) (w : World) : Prop where
  tr : TR ρ st.ntm st.tm a.tmps
  df : ∃ bs : List Nat, a.defers = bs.map (fun b => { target := .collected b, args := #[] }) ∧ bs.length = st.df.length ∧ ∀ (i : Nat) g b, st.df[i]? = some g → bs[i]? = some b → ∃ L, ρ.loc g 0 = some L ∧ L.b = b
  hr : HR E B ρ st.hp st.nx w

theorem TR.mono {ρ ρ' : Ren} (hle : ρ.le ρ') {ntm : Nat} {tm : Tr AV} {tmps : Array Value} (h : TR ρ ntm tm tmps) : TR ρ' ntm tm tmps :=
  ⟨h.size, fun t v e => let ⟨x, hx, hv⟩ := h.val t v e; ⟨x, hx, hv.mono hle⟩⟩

theorem EntsR.mono {ρ ρ' : Ren} (hle : ρ.le ρ') : ∀ {es : List (AV × AV × Nat)} {fs : List MapEntry}, EntsR ρ es fs → EntsR ρ' es fs
  | [], [], _ => trivial
  | [], _ :: _, h => h.elim
  | (_, _, _) :: _, [], h => h.elim
  | (_, _, _) :: _, _ :: _, h => ⟨h.1.mono hle, h.2.1.mono hle, h.2.2.1, EntsR.mono hle h.2.2.2⟩

theorem ObjR.keep {ρ ρ' : Ren} {w w' : World} {g : Nat} {o : GO} (hle : ρ.le ρ') (h : ObjR ρ w g o)
    (hb : ∀ m L, m ∈ memsOf o → ρ.loc g m = some L → w'.heap[L.b]? = w.heap[L.b]?) : ObjR ρ' w' g o := by
  cases o with
  | cells ty hw ms =>
    obtain ⟨h1, h2, h3, h4⟩ := h
    refine ⟨fun x hx => ?_, fun x y hx hy L M hL hM e => ?_, h3, h4⟩
    · obtain ⟨hr, L, c, fz, hL, hm⟩ := h1 x hx
      refine ⟨hr, L, c, fz, hle.loc _ _ _ hL, ?_, hm.len, hm.lim, hm.fx, fun i v e => ?_, hm.soft⟩
      · rw [hb x.m L (List.mem_map.2 ⟨x, hx, rfl⟩) hL]; exact hm.blk
      · obtain ⟨y, hy, hv⟩ := hm.val i v e; exact ⟨y, hy, hv.mono hle⟩
    · obtain ⟨_, L', _, _, hL', _⟩ := h1 x hx
      obtain ⟨_, M', _, _, hM', _⟩ := h1 y hy
      have e1 := hle.loc _ _ _ hL'
      have e2 := hle.loc _ _ _ hM'
      rw [hL] at e1; rw [hM] at e2
      cases e1; cases e2
      exact h2 x y hx hy L M hL' hM' e
  | map es clk =>
    obtain ⟨L, fs, hL, hf, he⟩ := h
    exact ⟨L, fs, hle.loc _ _ _ hL, by rw [hb 0 L (by simp [memsOf]) hL]; exact hf, he.mono hle⟩
  | iterM mp since seen last =>
    obtain ⟨L, r, hL, h0, hf, he⟩ := h
    refine ⟨L, r, hle.loc _ _ _ hL, h0, by rw [hb 0 L (by simp [memsOf]) hL]; exact hf, ?_⟩
    cases mp with
    | none => exact he
    | some h => obtain ⟨M, hM, e⟩ := he; exact ⟨M, hle.loc _ _ _ hM, e⟩
  | loop s pend fn ntm tm ps asg body d =>
    obtain ⟨L, M, f, tmps, hL, hM, hf, ht⟩ := h
    exact ⟨L, M, f, tmps, hle.loc _ _ _ hL, hle.loc _ _ _ hM, by rw [hb 0 L (by simp [memsOf]) hL]; exact hf, ht.mono hle⟩
  | defd =>
    obtain ⟨L, hL, hf⟩ := h
    exact ⟨L, hle.loc _ _ _ hL, by rw [hb 0 L (by simp [memsOf]) hL]; exact hf⟩

theorem ObjR.in_heap {ρ : Ren} {w : World} {g : Nat} {o : GO} (h : ObjR ρ w g o) {m : Nat} {L : Loc} (hm : m ∈ memsOf o) (hL : ρ.loc g m = some L) : L.b < w.heap.size := by
  have key : ∀ {r : Nat} {x : Obj}, w.heap[r]? = some x → r < w.heap.size := fun {r x} e => by
    rcases Nat.lt_or_ge r w.heap.size with k | k
    · exact k
    · rw [Array.getElem?_eq_none k] at e; cases e
  cases o with
  | cells ty hw ms =>
    obtain ⟨x, hx, e⟩ := List.mem_map.1 hm
    obtain ⟨_, L', c, fz, hL', hmm⟩ := h.1 x hx
    rw [e, hL] at hL'; cases hL'
    exact key hmm.blk
  | map es clk =>
    obtain ⟨L', fs, hL', hf, _⟩ := h
    simp [memsOf] at hm; subst hm; rw [hL] at hL'; cases hL'; exact key hf
  | iterM mp since seen last =>
    obtain ⟨L', r, hL', h0, hf, _⟩ := h
    simp [memsOf] at hm; subst hm; rw [hL] at hL'; cases hL'; exact key hf
  | loop s pend fn ntm tm ps asg body d =>
    obtain ⟨L', M, f, tmps, hL', hM, hf, ht⟩ := h
    simp [memsOf] at hm; subst hm; rw [hL] at hL'; cases hL'; exact key hf
  | defd =>
    obtain ⟨L', hL', hf⟩ := h
    simp [memsOf] at hm; subst hm; rw [hL] at hL'; cases hL'; exact key hf

theorem Inv.mono_df {ρ ρ' : Ren} (hle : ρ.le ρ') {df : List Nat} {ds : List Deferred}
    (h : ∃ bs : List Nat, ds = bs.map (fun b => { target := .collected b, args := #[] }) ∧ bs.length = df.length ∧ ∀ (i : Nat) g b, df[i]? = some g → bs[i]? = some b → ∃ L, ρ.loc g 0 = some L ∧ L.b = b) :
    ∃ bs : List Nat, ds = bs.map (fun b => { target := .collected b, args := #[] }) ∧ bs.length = df.length ∧ ∀ (i : Nat) g b, df[i]? = some g → bs[i]? = some b → ∃ L, ρ'.loc g 0 = some L ∧ L.b = b := by
  obtain ⟨bs, h1, h2, h3⟩ := h
  exact ⟨bs, h1, h2, fun i g b hg hb => let ⟨L, hL, e⟩ := h3 i g b hg hb; ⟨L, hle.loc _ _ _ hL, e⟩⟩

end Go.Proofs.YtcedalofcekdkaaGreatDoor.Ex
end

section
namespace Go.Proofs.YtcedalofcekdkaaGreatDoor.Ex

def BlkOf (ρ : Ren) (hp : Tr GO) (g r : Nat) : Prop := ∃ o m L, hp.get g = some o ∧ m ∈ memsOf o ∧ ρ.loc g m = some L ∧ L.b = r

theorem HR.update {E : Env} {B : Nat} {ρ ρ' : Ren} {hp : Tr GO} {nx nx' : Nat} {w w' : World} (h : HR E B ρ hp nx w) (hle : ρ.le ρ') (g : Nat) (x : Option GO)
    (hfresh : ∀ g m L, ρ'.loc g m = some L → g < nx' ∧ m < nx') (hnx : nx ≤ nx')
    (hnew : ∀ g' m L, ρ'.loc g' m = some L → ρ.loc g' m = some L ∨ (g' = g ∧ (BlkOf ρ hp g L.b ∨ w.heap.size ≤ L.b) ∧ (nx ≤ g' ∨ nx ≤ m)))
    (hg : NG ≤ g) (hgn : g < nx')
    (os : w'.os = w.os) (tape : w'.tape = w.tape) (output : w'.output = w.output) (hsize : w.heap.size ≤ w'.heap.size)
    (hsame : ∀ r, r < w.heap.size → ¬ BlkOf ρ hp g r → w'.heap[r]? = w.heap[r]?)
    (hobj : ∀ o, x = some o → ObjR ρ' w' g o ∧ ∀ m L, m ∈ memsOf o → ρ'.loc g m = some L → BlkOf ρ hp g L.b ∨ w.heap.size ≤ L.b) :
    HR E B ρ' (Tr.put x (pathOf g) hp) nx' w' ∧ Ev ρ hp nx w ρ' (Tr.put x (pathOf g) hp) nx' w' := by

  have other : ∀ k o, hp.get k = some o → k ≠ g → ∀ m L, m ∈ memsOf o → ρ.loc k m = some L → L.b < w.heap.size ∧ ¬ BlkOf ρ hp g L.b := by
    intro k o hk hne m L hm hL
    refine ⟨(h.obj k o hk).2.2.in_heap hm hL, ?_⟩
    rintro ⟨o', m', L', hg', hm', hL', e⟩
    exact h.sep k g o o' hk hg' hne m m' L L' hm hm' hL hL' e.symm
  have oldloc : ∀ k o, hp.get k = some o → ∀ m L, m ∈ memsOf o → ρ'.loc k m = some L → k ≠ g → ρ.loc k m = some L := by
    intro k o _ m L _ hL hne
    rcases hnew k m L hL with e | ⟨e, _, _⟩
    · exact e
    · exact absurd e hne
  have blkB : ∀ r, BlkOf ρ hp g r → B ≤ r := by
    rintro r ⟨o, m, L, ho, hm, hL, rfl⟩
    exact h.above g m L hg hL
  refine ⟨⟨hfresh, fun v => by rw [hle.tok]; exact h.one v, Nat.le_trans h.low hnx, Nat.le_trans h.base hsize, ?_, fun k hk => ?_, ?_, ?_, ?_⟩, ⟨hle, hnx, fun g' m L hL => (hnew g' m L hL).imp id fun h => h.2.2, os, tape, output, hsize, ?_, ?_⟩⟩
  · intro k m L hk hL
    rcases hnew k m L hL with e | ⟨rfl, e | e, _⟩
    · exact h.above k m L hk e
    · exact blkB _ e
    · exact Nat.le_trans h.base e
  · obtain ⟨t, ht⟩ := h.glob k hk; exact ⟨t, hle.loc _ _ _ ht⟩
  · intro k cs hk hcs
    obtain ⟨c, ty, fz, hb, hkB, hc⟩ := h.gcell k cs hk hcs
    refine ⟨c, ty, fz, ?_, hkB, fun i v e => let ⟨y, hy, hv⟩ := hc i v e; ⟨y, hy, hv.mono hle⟩⟩
    rw [hsame k (Nat.lt_of_lt_of_le hkB h.base) fun hb => by have := blkB _ hb; omega]
    exact hb
  · intro k o hk
    rw [Tr.get_put] at hk
    by_cases e : k = g
    · subst e
      simp only [if_true] at hk
      exact ⟨hg, hgn, (hobj o hk).1⟩
    · simp only [e, if_false] at hk
      obtain ⟨h1, h2, h3⟩ := h.obj k o hk
      refine ⟨h1, Nat.lt_of_lt_of_le h2 hnx, h3.keep hle fun m L hm hL => ?_⟩
      obtain ⟨a, b⟩ := other k o hk e m L hm hL
      exact hsame _ a b
  · intro k l o p hk hl hne m n L M hm hn hL hM
    rw [Tr.get_put] at hk hl
    by_cases ek : k = g
    · subst ek
      have el : l ≠ k := fun e => hne e.symm
      simp only [if_true] at hk
      simp only [el, if_false] at hl
      have hM' := oldloc l p hl n M hn hM el
      obtain ⟨a, b⟩ := other l p hl el n M hn hM'
      rcases (hobj o hk).2 m L hm hL with c | c
      · exact fun e => b (e ▸ c)
      · omega
    · simp only [ek, if_false] at hk
      have hL' := oldloc k o hk m L hm hL ek
      obtain ⟨a, b⟩ := other k o hk ek m L hm hL'
      by_cases el : l = g
      · subst el
        simp only [if_true] at hl
        rcases (hobj p hl).2 n M hn hM with c | c
        · exact fun e => b (e ▸ c)
        · omega
      · simp only [el, if_false] at hl
        exact h.sep k l o p hk hl hne m n L M hm hn hL' (oldloc l p hl n M hn hM el)
  · intro r hr hn
    refine hsame r hr fun hb => hn ?_
    obtain ⟨o, m, L, ho, hm, hL, e⟩ := hb
    exact ⟨g, o, m, L, ho, hm, hL, e⟩
  · rintro r ⟨k, o, m, L, hk, hm, hL, rfl⟩
    rw [Tr.get_put] at hk
    by_cases e : k = g
    · subst e
      simp only [if_true] at hk
      rcases (hobj o hk).2 m L hm hL with ⟨o', m', L', ho', hm', hL', e'⟩ | c
      · exact .inr ⟨k, o', m', L', ho', hm', hL', e'⟩
      · exact .inl c
    · simp only [e, if_false] at hk
      exact .inr ⟨k, o, m, L, hk, hm, oldloc k o hk m L hm hL e, rfl⟩

def Ren.with (ρ : Ren) (g m : Nat) (L : Loc) : Ren := { ρ with loc := fun h n => if h = g ∧ n = m then some L else ρ.loc h n }

theorem Ren.le_with {ρ : Ren} {g m : Nat} (L : Loc) (h : ρ.loc g m = none) : ρ.le (ρ.with g m L) :=
  ⟨fun k n M e => by
    unfold Ren.with
    by_cases c : k = g ∧ n = m
    · obtain ⟨rfl, rfl⟩ := c; rw [h] at e; cases e
    · simp [c, e], rfl⟩

theorem Ren.with_at (ρ : Ren) (g m : Nat) (L : Loc) : (ρ.with g m L).loc g m = some L := by simp [Ren.with]

theorem HR.none_of_le {E : Env} {B : Nat} {ρ : Ren} {hp : Tr GO} {nx : Nat} {w : World} (h : HR E B ρ hp nx w) {g m : Nat} (k : nx ≤ g ∨ nx ≤ m) : ρ.loc g m = none := by
  cases e : ρ.loc g m with
  | none => rfl
  | some L => have := h.fresh g m L e; omega

theorem HR.get_none {E : Env} {B : Nat} {ρ : Ren} {hp : Tr GO} {nx : Nat} {w : World} (h : HR E B ρ hp nx w) {g : Nat} (k : nx ≤ g) : hp.get g = none := by
  cases e : hp.get g with
  | none => rfl
  | some o => have := (h.obj g o e).2.1; omega

theorem HR.new {E : Env} {B : Nat} {ρ : Ren} {hp : Tr GO} {nx : Nat} {w : World} (h : HR E B ρ hp nx w) (x : Obj) (o : GO) (s t : Nat) (hm : memsOf o = [0])
    (ho : ∀ w' : World, w'.heap[w.heap.size]? = some x → ρ.le (ρ.with nx 0 ⟨w.heap.size, s, t⟩) → ObjR (ρ.with nx 0 ⟨w.heap.size, s, t⟩) w' nx o) :
    HR E B (ρ.with nx 0 ⟨w.heap.size, s, t⟩) (Tr.put (some o) (pathOf nx) hp) (nx + 1) { w with heap := w.heap.push x } ∧
    Ev ρ hp nx w (ρ.with nx 0 ⟨w.heap.size, s, t⟩) (Tr.put (some o) (pathOf nx) hp) (nx + 1) { w with heap := w.heap.push x } := by
  have hn : ρ.loc nx 0 = none := h.none_of_le (.inl (Nat.le_refl _))
  refine h.update (Ren.le_with _ hn) nx (some o) ?_ (Nat.le_succ _) ?_ h.low (Nat.lt_succ_self _) rfl rfl rfl (by simp) ?_ ?_
  · intro g m L e
    unfold Ren.with at e
    by_cases c : g = nx ∧ m = 0
    · have := h.low; unfold NG at this; omega
    · simp only [c, if_false] at e; have := h.fresh g m L e; omega
  · intro g m L e
    unfold Ren.with at e
    by_cases c : g = nx ∧ m = 0
    · simp only [c, and_self, if_true, Option.some.injEq] at e
      subst e
      exact .inr ⟨c.1, .inr (Nat.le_refl _), .inl (by omega)⟩
    · simp only [c, if_false] at e; exact .inl e
  · intro r hr _
    show (w.heap.push x)[r]? = _
    rw [Array.getElem?_push, if_neg (by omega)]
  · intro o' e
    cases e
    refine ⟨ho _ (by simp) (Ren.le_with _ hn), fun m L hm' hL => .inr ?_⟩
    rw [hm] at hm'
    simp at hm'; subst hm'
    rw [Ren.with_at] at hL; cases hL; exact Nat.le_refl _

theorem HR.turn {E : Env} {B : Nat} {ρ : Ren} {hp : Tr GO} {nx : Nat} {w w' : World} (h : HR E B ρ hp nx w) {g : Nat} {o o' : GO} (hg : hp.get g = some o)
    (os : w'.os = w.os) (tape : w'.tape = w.tape) (output : w'.output = w.output) (hsize : w'.heap.size = w.heap.size)
    (hsame : ∀ r, r < w.heap.size → ¬ BlkOf ρ hp g r → w'.heap[r]? = w.heap[r]?)
    (hm : ∀ m, m ∈ memsOf o' → m ∈ memsOf o) (ho : ObjR ρ w' g o') :
    HR E B ρ (Tr.put (some o') (pathOf g) hp) nx w' ∧ Ev ρ hp nx w ρ (Tr.put (some o') (pathOf g) hp) nx w' :=
  h.update (.refl _) g (some o') h.fresh (Nat.le_refl _) (fun _ _ _ e => .inl e) (h.obj g o hg).1 (h.obj g o hg).2.1 os tape output (by omega) hsame
    fun o2 e => by cases e; exact ⟨ho, fun m L hm' hL => .inl ⟨o, m, L, hg, hm m hm', hL, rfl⟩⟩

theorem HR.lose {E : Env} {B : Nat} {ρ : Ren} {hp : Tr GO} {nx : Nat} {w w' : World} (h : HR E B ρ hp nx w) {g : Nat} {o : GO} (hg : hp.get g = some o)
    (os : w'.os = w.os) (tape : w'.tape = w.tape) (output : w'.output = w.output) (hsize : w'.heap.size = w.heap.size)
    (hsame : ∀ r, r < w.heap.size → ¬ BlkOf ρ hp g r → w'.heap[r]? = w.heap[r]?) :
    HR E B ρ (Tr.put none (pathOf g) hp) nx w' ∧ Ev ρ hp nx w ρ (Tr.put none (pathOf g) hp) nx w' :=
  h.update (.refl _) g none h.fresh (Nat.le_refl _) (fun _ _ _ e => .inl e) (h.obj g o hg).1 (h.obj g o hg).2.1 os tape output (by omega) hsame
    fun o2 e => by cases e

theorem HR.weaken {E : Env} {B : Nat} {ρ : Ren} {hp hp' : Tr GO} {nx nx' : Nat} {w : World} (h : HR E B ρ hp nx w) (hnx : nx ≤ nx') (hh : ∀ g o, hp'.get g = some o → hp.get g = some o) :
    HR E B ρ hp' nx' w :=
  ⟨fun g m L e => by have := h.fresh g m L e; omega, h.one, Nat.le_trans h.low hnx, h.base, h.above, h.glob, h.gcell,
    fun g o e => by obtain ⟨a, b, c⟩ := h.obj g o (hh g o e); exact ⟨a, by omega, c⟩,
    fun g k o p hg hk => h.sep g k o p (hh g o hg) (hh k p hk)⟩

theorem HR.drawn {E : Env} {B : Nat} {ρ : Ren} {hp : Tr GO} {nx : Nat} {w : World} (h : HR E B ρ hp nx w) (n : Nat) : HR E B ρ hp nx { w with drawn := n } :=
  ⟨h.fresh, h.one, h.low, h.base, h.above, h.glob, h.gcell, fun g o e => by
    obtain ⟨a, b, c⟩ := h.obj g o e; exact ⟨a, b, c.keep (.refl _) fun _ _ _ _ => rfl⟩, h.sep⟩

theorem Ev.drawn (ρ : Ren) (hp : Tr GO) (nx : Nat) (w : World) (n : Nat) : Ev ρ hp nx w ρ hp nx { w with drawn := n } := ⟨.refl _, Nat.le_refl _, fun _ _ _ h => .inl h, rfl, rfl, rfl, Nat.le_refl _, fun _ _ _ => rfl, fun _ h => .inr h⟩

end Go.Proofs.YtcedalofcekdkaaGreatDoor.Ex
end

section
namespace Go.Proofs.YtcedalofcekdkaaGreatDoor.Ex

section
variable {ρ₁ ρ ρ₂ : Ren}

mutual
theorem VR.thru (H : ∀ g m L L₁, ρ₁.loc g m = some L₁ → ρ.loc g m = some L → ρ₂.loc g m = some L) (ht : ρ₂.tok = ρ.tok) : ∀ {v : AV} {x₁ x : Value}, VR ρ₁ v x₁ → VR ρ v x → VR ρ₂ v x
  | _, _, _, .bool b, k => by cases k; exact .bool b
  | _, _, _, .int a n, k => by cases k; exact .int a n
  | _, _, _, .str l, k => by cases k; exact .str l
  | _, _, _, .nilp, k => by cases k; exact .nilp
  | _, _, _, .ptr g m o L h, k => by cases k with | ptr _ _ _ L' h' => exact .ptr _ _ _ L' (H _ _ _ _ h h')
  | _, _, _, .nils, k => by cases k; exact .nils
  | _, _, _, .sl g m o n c L h, k => by cases k with | sl _ _ _ _ _ L' h' => exact .sl _ _ _ _ _ L' (H _ _ _ _ h h')
  | _, _, _, .su g m o n z L h _ _, k => by cases k with | su _ _ _ _ _ L' h' hz hc => exact .su _ _ _ _ _ L' (H _ _ _ _ h h') hz hc
  | _, _, _, .sr g m o n z L h _ _ _, k => by cases k with | sr _ _ _ _ _ L' h' hz hn hc => exact .sr _ _ _ _ _ L' (H _ _ _ _ h h') hz hn hc
  | _, _, _, .nilm, k => by cases k; exact .nilm
  | _, _, _, .map g L h, k => by cases k with | map _ L' h' => exact .map _ L' (H _ _ _ _ h h')
  | _, _, _, .nilf, k => by cases k; exact .nilf
  | _, _, _, .func f a b x y hf ha hb, k => by
    cases k with
    | func _ _ _ x' y' hf' ha' hb' => exact .func _ _ _ _ _ hf' (VRL.thru H ht ha ha') (VRL.thru H ht hb hb')
    | yield l _ _ _ _ L h _ _ => exact absurd rfl (hf l)
  | _, _, _, .yield l a b x y L h ha hb, k => by
    cases k with
    | func _ _ _ x' y' hf' ha' hb' => exact absurd rfl (hf' l)
    | yield _ _ _ _ _ L' h' ha' hb' => exact .yield _ _ _ _ _ L' (H _ _ _ _ h h') (VRL.thru H ht ha ha') (VRL.thru H ht hb hb')
  | _, _, _, .nili, k => by cases k; exact .nili
  | _, _, _, .iface t v x h, k => by cases k with | iface _ _ x' h' => exact .iface _ _ _ (VR.thru H ht h h')
  | _, _, _, .agg l x h, k => by cases k with | agg _ x' h' => exact .agg _ _ (VRL.thru H ht h h')
  | _, _, _, .tup l x h, k => by cases k with | tup _ x' h' => exact .tup _ _ (VRL.thru H ht h h')
  | _, _, _, .tok i, k => by cases k; rw [← congrFun ht i]; exact .tok i
theorem VRL.thru (H : ∀ g m L L₁, ρ₁.loc g m = some L₁ → ρ.loc g m = some L → ρ₂.loc g m = some L) (ht : ρ₂.tok = ρ.tok) : ∀ {v : List AV} {x₁ x : List Value}, VRL ρ₁ v x₁ → VRL ρ v x → VRL ρ₂ v x
  | _, _, _, .nil, k => by cases k; exact .nil
  | _, _, _, .cons v x vs xs h hs, k => by cases k with | cons _ x' _ xs' h' hs' => exact .cons _ _ _ _ (VR.thru H ht h h') (VRL.thru H ht hs hs')
end

theorem EntsR.thru (H : ∀ g m L L₁, ρ₁.loc g m = some L₁ → ρ.loc g m = some L → ρ₂.loc g m = some L) (ht : ρ₂.tok = ρ.tok) : ∀ {es : List (AV × AV × Nat)} {fs₁ fs : List MapEntry}, EntsR ρ₁ es fs₁ → EntsR ρ es fs → EntsR ρ₂ es fs
  | [], _, [], _, _ => trivial
  | [], _, _ :: _, _, h => h.elim
  | (_, _, _) :: _, _, [], _, h => h.elim
  | (_, _, _) :: _, [], _ :: _, h, _ => h.elim
  | (_, _, _) :: _, _ :: _, _ :: _, h, k => ⟨VR.thru H ht h.1 k.1, VR.thru H ht h.2.1 k.2.1, k.2.2.1, EntsR.thru H ht h.2.2.2 k.2.2.2⟩

theorem TR.thru (H : ∀ g m L L₁, ρ₁.loc g m = some L₁ → ρ.loc g m = some L → ρ₂.loc g m = some L) (ht : ρ₂.tok = ρ.tok) {ntm n₁ : Nat} {tm : Tr AV} {t₁ t : Array Value} (h : TR ρ₁ n₁ tm t₁) (k : TR ρ ntm tm t) : TR ρ₂ ntm tm t :=
  ⟨k.size, fun i v e => by
    obtain ⟨x₁, _, h1⟩ := h.val i v e
    obtain ⟨x, h2, h3⟩ := k.val i v e
    exact ⟨x, h2, VR.thru H ht h1 h3⟩⟩

theorem ObjR.thru (H : ∀ g m L L₁, ρ₁.loc g m = some L₁ → ρ.loc g m = some L → ρ₂.loc g m = some L) (ht : ρ₂.tok = ρ.tok) {w₁ w : World} {g : Nat} {o : GO} (h : ObjR ρ₁ w₁ g o) (k : ObjR ρ w g o) : ObjR ρ₂ w g o := by
  cases o with
  | cells ty hw ms =>
    obtain ⟨h1, _, _, _⟩ := h
    obtain ⟨k1, k2, k3, k4⟩ := k
    have at_ : ∀ x, x ∈ ms → ∀ L, ρ.loc g x.m = some L → ρ₂.loc g x.m = some L := fun x hx L hL => by
      obtain ⟨_, L₁, _, _, hL₁, _⟩ := h1 x hx
      exact H _ _ _ _ hL₁ hL
    refine ⟨fun x hx => ?_, fun x y hx hy L M hL hM e => ?_, k3, k4⟩
    · obtain ⟨hr, L, c, fz, hL, hm⟩ := k1 x hx
      obtain ⟨_, L₁, c₁, fz₁, hL₁, hm₁⟩ := h1 x hx
      refine ⟨hr, L, c, fz, at_ x hx L hL, hm.blk, hm.len, hm.lim, hm.fx, fun i v e => ?_, hm.soft⟩
      obtain ⟨y, hy, hv⟩ := hm.val i v e
      obtain ⟨y₁, _, hv₁⟩ := hm₁.val i v e
      exact ⟨y, hy, VR.thru H ht hv₁ hv⟩
    · obtain ⟨_, L', _, _, hL', _⟩ := k1 x hx
      obtain ⟨_, M', _, _, hM', _⟩ := k1 y hy
      have e1 := at_ x hx L' hL'
      have e2 := at_ y hy M' hM'
      rw [hL] at e1; rw [hM] at e2
      cases e1; cases e2
      exact k2 x y hx hy L M hL' hM' e
  | map es clk =>
    obtain ⟨L₁, fs₁, hL₁, _, he₁⟩ := h
    obtain ⟨L, fs, hL, hf, he⟩ := k
    exact ⟨L, fs, H _ _ _ _ hL₁ hL, hf, EntsR.thru H ht he₁ he⟩
  | iterM mp since seen last =>
    obtain ⟨L₁, r₁, hL₁, _, _, he₁⟩ := h
    obtain ⟨L, r, hL, h0, hf, he⟩ := k
    refine ⟨L, r, H _ _ _ _ hL₁ hL, h0, hf, ?_⟩
    cases mp with
    | none => exact he
    | some h =>
      obtain ⟨M₁, hM₁, _⟩ := he₁
      obtain ⟨M, hM, e⟩ := he
      exact ⟨M, H _ _ _ _ hM₁ hM, e⟩
  | loop s pend fn ntm tm ps asg body d =>
    obtain ⟨L₁, M₁, _, tmps₁, hL₁, hM₁, _, ht₁⟩ := h
    obtain ⟨L, M, f, tmps, hL, hM, hf, htt⟩ := k
    exact ⟨L, M, f, tmps, H _ _ _ _ hL₁ hL, H _ _ _ _ hM₁ hM, hf, TR.thru H ht ht₁ htt⟩
  | defd =>
    obtain ⟨L₁, hL₁, _⟩ := h
    obtain ⟨L, hL, hf⟩ := k
    exact ⟨L, H _ _ _ _ hL₁ hL, hf⟩

theorem ObjR.has {ρ : Ren} {w : World} {g : Nat} {o : GO} (h : ObjR ρ w g o) {m : Nat} (hm : m ∈ memsOf o) : ∃ L, ρ.loc g m = some L := by
  cases o with
  | cells ty hw ms =>
    obtain ⟨x, hx, e⟩ := List.mem_map.1 hm
    obtain ⟨_, L, _, _, hL, _⟩ := h.1 x hx
    exact ⟨L, e ▸ hL⟩
  | map es clk => obtain ⟨L, fs, hL, _⟩ := h; simp [memsOf] at hm; subst hm; exact ⟨L, hL⟩
  | iterM mp since seen last => obtain ⟨L, r, hL, _⟩ := h; simp [memsOf] at hm; subst hm; exact ⟨L, hL⟩
  | loop s pend fn ntm tm ps asg body d => obtain ⟨L, _, _, _, hL, _⟩ := h; simp [memsOf] at hm; subst hm; exact ⟨L, hL⟩
  | defd => obtain ⟨L, hL, _⟩ := h; simp [memsOf] at hm; subst hm; exact ⟨L, hL⟩

end
end Go.Proofs.YtcedalofcekdkaaGreatDoor.Ex
end

section
namespace Go.Proofs.YtcedalofcekdkaaGreatDoor.Ex

def Ren.cut (ρ : Ren) (n : Nat) : Ren := { ρ with loc := fun g m => if g < n ∧ m < n then ρ.loc g m else none }

theorem Ren.cut_some {ρ : Ren} {n g m : Nat} {L : Loc} (h : (ρ.cut n).loc g m = some L) : g < n ∧ m < n ∧ ρ.loc g m = some L := by
  simp only [Ren.cut] at h
  by_cases c : g < n ∧ m < n
  · rw [if_pos c] at h; exact ⟨c.1, c.2, h⟩
  · rw [if_neg c] at h; cases h

theorem Ren.cut_at {ρ : Ren} {n g m : Nat} {L : Loc} (hg : g < n) (hm : m < n) (h : ρ.loc g m = some L) : (ρ.cut n).loc g m = some L := by
  simp [Ren.cut, hg, hm, h]

theorem Ren.cut_le (ρ : Ren) (n : Nat) : (ρ.cut n).le ρ := ⟨fun _ _ _ h => (Ren.cut_some h).2.2, rfl⟩

def Ren.over (ρ ρ' : Ren) : Ren := { ρ with loc := fun g m => match ρ.loc g m with | some L => some L | none => ρ'.loc g m }

theorem Ren.le_over (ρ ρ' : Ren) : ρ.le (ρ.over ρ') := ⟨fun g m L h => by simp [Ren.over, h], rfl⟩

theorem Ren.over_some {ρ ρ' : Ren} {g m : Nat} {L : Loc} (h : (ρ.over ρ').loc g m = some L) : ρ.loc g m = some L ∨ ρ'.loc g m = some L := by
  simp only [Ren.over] at h
  split at h
  · rename_i L' e; cases h; exact .inl e
  · exact .inr h

theorem Ren.over_le {ρ ρ' : Ren} (ht : ρ'.tok = ρ.tok) (h : ∀ g m L L', ρ.loc g m = some L → ρ'.loc g m = some L' → L = L') : ρ'.le (ρ.over ρ') :=
  ⟨fun g m L e => by
    simp only [Ren.over]
    split
    · rename_i L' e'; rw [h g m L' L e' e]
    · exact e, by simp [Ren.over, ht]⟩

theorem HR.merge {E : Env} {B : Nat} {ρ ρi ρ' : Ren} {hC hm ho hC' : Tr GO} {N N' n n' : Nat} {w w' : World} (W : Nat → Prop)
    (HC : HR E B ρ hC N w) (hle : ρi.le ρ) (hsub : ∀ g o, hm.get g = some o → hC.get g = some o)
    (HO : HR E B ρ' ho n' w') (hev : Ev ρi hm n w ρ' ho n' w')
    (hcon : ∀ g m L L', ρ.loc g m = some L → ρ'.loc g m = some L' → L = L')
    (hlay : ∀ g o, hC'.get g = some o → (W g ∧ ho.get g = some o) ∨ (¬ W g ∧ hC.get g = some o))
    (hkeep : ∀ g o, ¬ W g → hm.get g = some o → ho.get g = some o) (hN : N ≤ N') (hn : n' ≤ N') :
    HR E B (ρ.over ρ') hC' N' w' ∧ ∀ ρ0 hp0 n0 w0, Ev ρ0 hp0 n0 w0 ρ hC N w → n0 ≤ n → Ev ρ0 hp0 n0 w0 (ρ.over ρ') hC' N' w' := by
  have hle1 : ρ.le (ρ.over ρ') := Ren.le_over ρ ρ'
  have hle2 : ρ'.le (ρ.over ρ') := Ren.over_le (hev.le.tok.trans hle.tok.symm) hcon

  have hnames : ∀ r, Names ρi hm r → Names ρ hC r := by
    rintro r ⟨g, o, m, L, h1, h2, h3, h4⟩
    exact ⟨g, o, m, L, hsub g o h1, h2, hle.loc _ _ _ h3, h4⟩

  have hcase : ∀ g o, hC'.get g = some o → (ho.get g = some o) ∨ (hC.get g = some o ∧ hm.get g = none) := by
    intro g o hg
    rcases hlay g o hg with ⟨_, h⟩ | ⟨hw, h⟩
    · exact .inl h
    · cases e : hm.get g with
      | none => exact .inr ⟨h, rfl⟩
      | some o' =>
        have := hsub g o' e
        rw [h] at this; cases this
        exact .inl (hkeep g o hw e)

  have hfar : ∀ g o, hC.get g = some o → hm.get g = none → ∀ m L, m ∈ memsOf o → ρ.loc g m = some L → L.b < w.heap.size ∧ ¬ Names ρi hm L.b := by
    intro g o hg hn m L hmem hL
    refine ⟨(HC.obj g o hg).2.2.in_heap hmem hL, ?_⟩
    rintro ⟨g', o', m', L', h1, h2, h3, h4⟩
    have hne : g' ≠ g := fun e => by rw [e, hn] at h1; cases h1
    exact HC.sep g' g o' o (hsub _ _ h1) hg hne m' m L' L h2 hmem (hle.loc _ _ _ h3) hL h4
  have hobj : ∀ g o, hC.get g = some o → hm.get g = none → ObjR (ρ.over ρ') w' g o := fun g o hg hn =>
    (HC.obj g o hg).2.2.keep hle1 fun m L hmem hL => by
      obtain ⟨a, b⟩ := hfar g o hg hn m L hmem hL
      exact hev.frame _ a b
  have hin : ∀ g o, ho.get g = some o → ∀ m L, m ∈ memsOf o → (ρ.over ρ').loc g m = some L → ρ'.loc g m = some L := by
    intro g o hg m L hmem hL
    obtain ⟨L', hL'⟩ := (HO.obj g o hg).2.2.has hmem
    have := hle2.loc _ _ _ hL'
    rw [hL] at this; cases this; exact hL'
  have hout : ∀ g o, hC.get g = some o → ∀ m L, m ∈ memsOf o → (ρ.over ρ').loc g m = some L → ρ.loc g m = some L := by
    intro g o hg m L hmem hL
    obtain ⟨L', hL'⟩ := (HC.obj g o hg).2.2.has hmem
    have := hle1.loc _ _ _ hL'
    rw [hL] at this; cases this; exact hL'
  refine ⟨⟨fun g m L hL => ?_, fun v => by show (ρ.tok v).oneCell' = true; exact HC.one v, Nat.le_trans HC.low hN, HO.base, fun g m L hg hL => ?_, fun g hg => ?_, fun g cs hg hcs => ?_, fun g o hg => ?_, fun g h o p hg hh hne m q L M hm1 hq hL hM => ?_⟩, fun ρ0 hp0 n0 w0 h0 hn0 => ⟨h0.le.trans hle1, Nat.le_trans h0.nxle hN, fun g m L hL => ?_, hev.os.trans h0.os, hev.tape.trans h0.tape, hev.output.trans h0.output, Nat.le_trans h0.size hev.size, fun r hr hnn => ?_, fun r => ?_⟩⟩
  · rcases Ren.over_some hL with h | h
    · have := HC.fresh g m L h; omega
    · have := HO.fresh g m L h; omega
  · rcases Ren.over_some hL with h | h
    · exact HC.above g m L hg h
    · exact HO.above g m L hg h
  · obtain ⟨t, ht⟩ := HC.glob g hg; exact ⟨t, hle1.loc _ _ _ ht⟩
  · obtain ⟨c, ty, fz, h1, h2, h3⟩ := HO.gcell g cs hg hcs
    exact ⟨c, ty, fz, h1, h2, fun i u e => let ⟨y, hy, hv⟩ := h3 i u e; ⟨y, hy, hv.mono hle2⟩⟩
  · rcases hcase g o hg with h | ⟨h, hn'⟩
    · obtain ⟨a, b, c⟩ := HO.obj g o h
      exact ⟨a, by omega, c.keep hle2 fun _ _ _ _ => rfl⟩
    · obtain ⟨a, b, c⟩ := HC.obj g o h
      exact ⟨a, by omega, hobj g o h hn'⟩
  ·
    have mixed : ∀ g h o p, ho.get g = some o → hC.get h = some p → hm.get h = none → ∀ m q L M, m ∈ memsOf o → q ∈ memsOf p → (ρ.over ρ').loc g m = some L → (ρ.over ρ').loc h q = some M → L.b ≠ M.b := by
      intro g h o p hg hh hn' m q L M hm1 hq hL hM e
      have hM' := hout h p hh q M hq hM
      obtain ⟨a, b⟩ := hfar h p hh hn' q M hq hM'
      rcases hev.img L.b ⟨g, o, m, L, hg, hm1, hin g o hg m L hm1 hL, rfl⟩ with c | c
      · omega
      · rw [e] at c; exact b c
    rcases hcase g o hg with a | ⟨a, a'⟩ <;> rcases hcase h p hh with b | ⟨b, b'⟩
    · exact HO.sep g h o p a b hne m q L M hm1 hq (hin g o a m L hm1 hL) (hin h p b q M hq hM)
    · exact mixed g h o p a b b' m q L M hm1 hq hL hM
    · exact fun e => mixed h g p o b a a' q m M L hq hm1 hM hL e.symm
    · exact HC.sep g h o p a b hne m q L M hm1 hq (hout g o a m L hm1 hL) (hout h p b q M hq hM)
  · rcases Ren.over_some hL with h | h
    · exact h0.only g m L h
    · rcases hev.only g m L h with h | h | h
      · exact h0.only g m L (hle.loc _ _ _ h)
      · exact .inr (.inl (by omega))
      · exact .inr (.inr (by omega))
  · rw [hev.frame r (Nat.lt_of_lt_of_le hr h0.size) fun hh => ?_, h0.frame r hr hnn]
    rcases h0.img r (hnames r hh) with x | x
    · omega
    · exact hnn x
  · rintro ⟨g, o, m, L, hg, hmem, hL, rfl⟩
    rcases hcase g o hg with h | ⟨h, _⟩
    · rcases hev.img L.b ⟨g, o, m, L, h, hmem, hin g o h m L hmem hL, rfl⟩ with c | c
      · exact .inl (Nat.le_trans h0.size c)
      · exact h0.img _ (hnames _ c)
    · exact h0.img _ ⟨g, o, m, L, h, hmem, hout g o h m L hmem hL, rfl⟩

theorem HR.part {E : Env} {B : Nat} {ρ ρ₁ : Ren} {hC hm : Tr GO} {N n : Nat} {w w₁ : World} (HC : HR E B ρ hC N w) (H1 : HR E B ρ₁ hm n w₁) (hsub : ∀ g o, hm.get g = some o → hC.get g = some o) :
    HR E B (ρ.cut n) hm n w := by
  have hlow := H1.low
  refine ⟨fun g m L hL => let ⟨a, b, _⟩ := Ren.cut_some hL; ⟨a, b⟩, HC.one, H1.low, HC.base, fun g m L hg hL => HC.above g m L hg (Ren.cut_some hL).2.2, fun g hg => ?_, fun g cs hg hcs => ?_, fun g o hg => ?_, fun g h o p hg hh hne m q L M hm1 hq hL hM => ?_⟩
  · obtain ⟨t, ht⟩ := HC.glob g hg
    have h64 : NG = 64 := rfl
    exact ⟨t, Ren.cut_at (by omega) (by omega) ht⟩
  · obtain ⟨c, ty, fz, h1, h2, h3⟩ := HC.gcell g cs hg hcs
    obtain ⟨c', ty', fz', _, _, h3'⟩ := H1.gcell g cs hg hcs
    refine ⟨c, ty, fz, h1, h2, fun i u e => ?_⟩
    obtain ⟨y, hy, hv⟩ := h3 i u e
    obtain ⟨y', _, hv'⟩ := h3' i u e
    exact ⟨y, hy, VR.thru (ρ₁ := ρ₁) (ρ := ρ) (ρ₂ := ρ.cut n) (fun g m L L₁ a b => Ren.cut_at (H1.fresh g m L₁ a).1 (H1.fresh g m L₁ a).2 b) rfl hv' hv⟩
  · obtain ⟨a, b, c⟩ := H1.obj g o hg
    exact ⟨a, b, ObjR.thru (ρ₁ := ρ₁) (ρ := ρ) (ρ₂ := ρ.cut n) (fun g m L L₁ a b => Ren.cut_at (H1.fresh g m L₁ a).1 (H1.fresh g m L₁ a).2 b) rfl c (HC.obj g o (hsub g o hg)).2.2⟩
  · exact HC.sep g h o p (hsub g o hg) (hsub h p hh) hne m q L M hm1 hq (Ren.cut_some hL).2.2 (Ren.cut_some hM).2.2

end Go.Proofs.YtcedalofcekdkaaGreatDoor.Ex
end

section
namespace Go.Proofs.YtcedalofcekdkaaGreatDoor.Ex
variable {P : Program} {b : Frame} {a : Act} {k : List Item} {cs : List Frame} {w w' : World} {ops : Array Oper}

theorem stepR_value {i : Nat} {rest : List Nat} {o : Oper} {v : Value} (ho : ops[i]? = some o) (hw : Region.wanted o (yielded ops a.tmps) = true)
    (hd : ∀ c, o.op ≠ .defer c) (h : (execOp a.eval o).run P w = .ok (.value v) w') :
    step P (lone (b.atR a (.inRegion ops (i :: rest) :: k)) cs w) = .next (lone (b.atR (a.put o.dst v) (.inRegion ops rest :: k)) cs w') :=
  step_lone_go (by
    rw [stepGR_op ho hw, Oper.semAt_eq _ _ _ hd]
    have hf : (b.atR a (.inRegion ops (i :: rest) :: k)).finish v = b.atR (a.put o.dst v) (.inRegion ops rest :: k) := by
      rw [Frame.finish_atR, ho]; rfl
    simp [stepG.apply, Sem.runT_eq, h, GStep.bare_after, hf])

theorem stepR_skipped {i : Nat} {rest : List Nat} {o : Oper} (ho : ops[i]? = some o) (hw : Region.wanted o (yielded ops a.tmps) = true)
    (hd : ∀ c, o.op ≠ .defer c) (h : (execOp a.eval o).run P w = .ok .skip w') :
    step P (lone (b.atR a (.inRegion ops (i :: rest) :: k)) cs w) = .next (lone (b.atR (a.put o.dst undef) (.inRegion ops rest :: k)) cs w') :=
  step_lone_go (by
    rw [stepGR_op ho hw, Oper.semAt_eq _ _ _ hd]
    have hf : (b.atR a (.inRegion ops (i :: rest) :: k)).finish undef = b.atR (a.put o.dst undef) (.inRegion ops rest :: k) := by
      rw [Frame.finish_atR, ho]; rfl
    simp [stepG.apply, Sem.runT_eq, h, GStep.bare_after, hf])

theorem stepR_enter {i : Nat} {rest : List Nat} {o : Oper} {f : FuncId} {args : Array Value} (ho : ops[i]? = some o) (hw : Region.wanted o (yielded ops a.tmps) = true)
    (hd : ∀ c, o.op ≠ .defer c) (h : (execOp a.eval o).run P w = .ok (.enter f args) w') :
    step P (lone (b.atR a (.inRegion ops (i :: rest) :: k)) cs w) =
      .next (lone (Frame.enter P f args .normal) (b.atR a (.inRegion ops (i :: rest) :: k) :: cs) w') :=
  step_lone_go (by
    rw [stepGR_op ho hw, Oper.semAt_eq _ _ _ hd]
    simp [stepG.apply, Sem.runT_eq, h, GStep.bare_after, Frame.atR])

theorem stepR_round {i : Nat} {rest : List Nat} {o : Oper} {l : Nat} {f : FuncId} {tmps : Array Value} {asg body : Code} (ho : ops[i]? = some o) (hw : Region.wanted o (yielded ops a.tmps) = true)
    (hd : ∀ c, o.op ≠ .defer c) (h : (execOp a.eval o).run P w = .ok (.round l f tmps asg body) w') :
    step P (lone (b.atR a (.inRegion ops (i :: rest) :: k)) cs w) =
      .next (lone (Frame.round l f tmps asg body .normal) (b.atR a (.inRegion ops (i :: rest) :: k) :: cs) w') :=
  step_lone_go (by
    rw [stepGR_op ho hw, Oper.semAt_eq _ _ _ hd]
    simp [stepG.apply, Sem.runT_eq, h, GStep.bare_after, Frame.atR])

theorem finish_op {i : Nat} {rest : List Nat} {o : Oper} (ho : ops[i]? = some o) (v : Value) :
    (b.atR a (.inRegion ops (i :: rest) :: k)).finish v = b.atR (a.put o.dst v) (.inRegion ops rest :: k) := by
  rw [Frame.finish_atR, ho]; rfl

end Go.Proofs.YtcedalofcekdkaaGreatDoor.Ex
end

section
namespace Go.Proofs.YtcedalofcekdkaaGreatDoor.Ex
variable {P : Program}

theorem add_none (b off n : Nat) : (⟨b, off, none⟩ : Addr).add n = ⟨b, off + n, none⟩ := by
  unfold Addr.add
  by_cases h : n = 0
  · simp [h]
  · simp [h]

theorem cell_at {w : World} {b : Nat} {c : Array Value} {ty : Nat} {fz : Nat × Nat} (h : w.heap[b]? = some (.cells c ty fz)) (off : Nat) : w.cell? ⟨b, off, none⟩ = c[off]? := by
  simp [World.cell?, h]

theorem frozen_at {w : World} {b : Nat} {c : Array Value} {ty : Nat} {fz : Nat × Nat} (h : w.heap[b]? = some (.cells c ty fz)) (off : Nat) (hf : ¬ (fz.1 ≤ off ∧ off < fz.2)) : w.frozen? ⟨b, off, none⟩ = false := by
  simp only [World.frozen?, h]
  simpa using hf

theorem run_loadFrom {w : World} {b : Nat} {c : Array Value} {ty : Nat} {fz : Nat × Nat} (h : w.heap[b]? = some (.cells c ty fz)) (off : Nat) :
    ∀ (xs : List Value) (i : Nat) (acc : Array Value), (∀ j, j < xs.length → c[off + i + j]? = xs[j]?) →
      (loadCellsFrom ⟨b, off, none⟩ i xs.length acc).run P w = .ok (acc ++ xs.toArray) w
  | [], i, acc, _ => by simp [loadCellsFrom]
  | x :: xs, i, acc, hc => by
    have h0 : c[off + i]? = some x := by simpa using hc 0 (by simp)
    have hl : w.cell? ((⟨b, off, none⟩ : Addr).add i) = some x := by rw [add_none, cell_at h, h0]
    simp only [List.length_cons, loadCellsFrom, Sem.run_bind, run_load, hl, Result.andThen_ok]
    rw [run_loadFrom h off xs (i + 1) (acc.push x) fun j hj => by
      have := hc (j + 1) (by simp; omega)
      simpa [Nat.add_assoc, Nat.add_comm 1 j] using this]
    simp

theorem run_loadCells {w : World} {b : Nat} {c : Array Value} {ty : Nat} {fz : Nat × Nat} (h : w.heap[b]? = some (.cells c ty fz)) (off : Nat) (xs : List Value)
    (hc : ∀ j, j < xs.length → c[off + j]? = xs[j]?) : (loadCells ⟨b, off, none⟩ xs.length).run P w = .ok xs.toArray w := by
  unfold loadCells
  rw [run_loadFrom h off xs 0 #[] (by simpa using hc)]
  simp

structure Wrote (w w' : World) (b off : Nat) (c : Array Value) (ty : Nat) (fz : Nat × Nat) (xs : List Value) (c' : Array Value) : Prop where
  blk : w'.heap[b]? = some (.cells c' ty fz)
  size : c'.size = c.size
  old : ∀ j, (j < off ∨ off + xs.length ≤ j) → c'[j]? = c[j]?
  new : ∀ j, j < xs.length → c'[off + j]? = xs[j]?
  other : ∀ r, r ≠ b → w'.heap[r]? = w.heap[r]?
  heap : w'.heap.size = w.heap.size
  os : w'.os = w.os
  tape : w'.tape = w.tape
  output : w'.output = w.output

theorem run_storeCells {b : Nat} {ty : Nat} {fz : Nat × Nat} (off : Nat) : ∀ (xs : List Value) (i : Nat) (w : World) (c : Array Value), w.heap[b]? = some (.cells c ty fz) →
    (∀ x, x ∈ xs → x.oneCell' = true) → off + i + xs.length ≤ c.size → (∀ o : Nat, o < c.size → ¬ (fz.1 ≤ o ∧ o < fz.2)) →
    ∃ w' c', (storeCells ⟨b, off, none⟩ xs i).run P w = .ok () w' ∧ Wrote w w' b (off + i) c ty fz xs c'
  | [], i, w, c, h, _, _, _ => ⟨w, c, by simp [storeCells], ⟨h, rfl, fun _ _ => rfl, fun j hj => by simp at hj, fun _ _ => rfl, rfl, rfl, rfl, rfl⟩⟩
  | x :: xs, i, w, c, h, h1, hlen, hf => by
    have hi : off + i < c.size := by simp at hlen; omega
    have hcell : ∃ y, w.cell? ⟨b, off + i, none⟩ = some y := ⟨c[off + i], by rw [cell_at h]; simp [hi]⟩
    have hfr : w.frozen? ⟨b, off + i, none⟩ = false := frozen_at h _ (hf _ hi)
    have hb : b < w.heap.size := by
      rcases Nat.lt_or_ge b w.heap.size with k | k
      · exact k
      · rw [Array.getElem?_eq_none k] at h; cases h
    have hset : (w.setCell ⟨b, off + i, none⟩ x).heap[b]? = some (.cells (c.setIfInBounds (off + i) x) ty fz) := by
      simp [World.setCell, Array.getElem?_modify, h]
    obtain ⟨w', c', hr, hw⟩ := run_storeCells off xs (i + 1) (w.setCell ⟨b, off + i, none⟩ x) (c.setIfInBounds (off + i) x) hset (fun y hy => h1 y (by simp [hy])) (by simp at hlen ⊢; omega) (by simpa using hf)
    refine ⟨w', c', ?_, ?_⟩
    · obtain ⟨y, hy⟩ := hcell
      simp only [storeCells, Sem.run_bind, add_none]
      rw [run_store P w _ x .plain (h1 x (by simp))]
      simp only [hy, hfr]
      simpa using hr
    · refine ⟨hw.blk, by rw [hw.size]; simp, fun j hj => ?_, fun j hj => ?_, fun r hr => ?_, ?_, by rw [hw.os]; rfl, by rw [hw.tape]; rfl, by rw [hw.output]; rfl⟩
      · rw [hw.old j (by simp at hj; omega), Array.getElem?_setIfInBounds]
        rw [if_neg (by simp at hj; omega)]
      · cases j with
        | zero =>
          rw [show off + i + 0 = off + i from rfl, hw.old (off + i) (by omega), Array.getElem?_setIfInBounds]
          simp [hi]
        | succ j =>
          have := hw.new j (by simpa using hj)
          simpa [Nat.add_assoc, Nat.add_comm 1 j] using this
      · rw [hw.other r hr]
        simp only [World.setCell, Array.getElem?_modify]
        rw [if_neg (fun e => hr e.symm)]
      · rw [hw.heap]; simp [World.setCell]

end Go.Proofs.YtcedalofcekdkaaGreatDoor.Ex
end

section
namespace Go.Proofs.YtcedalofcekdkaaGreatDoor.Ex
variable {P : Program} {E : Env} {B : Nat} {ρ : Ren} {st st' : St} {w w' : World} {a : Act}

def Out.Holds {α : Type} : Out α → (α → St → Prop) → Prop
  | .no _, _ => True
  | .one a s, Q => Q a s
  | .two x y, Q => x.Holds Q ∨ y.Holds Q

theorem Out.Holds.mono {α : Type} {o : Out α} {Q R : α → St → Prop} (h : o.Holds Q) (k : ∀ a s, Q a s → R a s) : o.Holds R := by
  induction o with
  | no w => trivial
  | one a s => exact k a s h
  | two x y ix iy => exact h.imp ix iy

theorem Out.Holds.bind {α β : Type} {o : Out α} {f : α → St → Out β} {Q : α → St → Prop} {R : β → St → Prop} (h : o.Holds Q) (k : ∀ a s, Q a s → (f a s).Holds R) : (o.bind f).Holds R := by
  induction o with
  | no w => trivial
  | one a s => exact k a s h
  | two x y ix iy => exact h.imp ix iy

structure Logs (st st' : St) : Prop where
  nx : st.nx ≤ st'.nx
  lg : ∀ g, g ∈ st.lg → g ∈ st'.lg
  same : ∀ g, g < st.nx → ¬ g ∈ st'.lg → st'.hp.get g = st.hp.get g

theorem Logs.refl (st : St) : Logs st st := ⟨Nat.le_refl _, fun _ h => h, fun _ _ _ => rfl⟩
theorem Logs.trans {a b c : St} (h : Logs a b) (k : Logs b c) : Logs a c :=
  ⟨Nat.le_trans h.nx k.nx, fun g hg => k.lg g (h.lg g hg), fun g hg hn => (k.same g (Nat.lt_of_lt_of_le hg h.nx) hn).trans (h.same g hg fun hh => hn (k.lg g hh))⟩

structure SameT (st st' : St) : Prop where
  ntm : st'.ntm = st.ntm
  tm : st'.tm = st.tm
  df : st'.df = st.df
  log : Logs st st'

theorem SameT.refl (st : St) : SameT st st := ⟨rfl, rfl, rfl, .refl _⟩
theorem SameT.trans {a b c : St} (h : SameT a b) (k : SameT b c) : SameT a c := ⟨k.ntm.trans h.ntm, k.tm.trans h.tm, k.df.trans h.df, h.log.trans k.log⟩

abbrev HRs (E : Env) (B : Nat) (ρ : Ren) (st : St) (w : World) : Prop := HR E B ρ st.hp st.nx w
abbrev Evs (ρ : Ren) (st : St) (w : World) (ρ' : Ren) (st' : St) (w' : World) : Prop := Ev ρ st.hp st.nx w ρ' st'.hp st'.nx w'

theorem newG_eq {o : GO} {g : Nat} (h : st.newG o = some (g, st')) : g = st.nx ∧ SameT st st' ∧ st'.hp = Tr.put (some o) (pathOf st.nx) st.hp ∧ st'.nx = st.nx + 1 := by
  obtain ⟨ntm, tm, hp, nx, lg, df⟩ := st
  simp only [St.newG] at h
  cases e : Tr.put (some o) (pathOf nx) hp with
  | lf => simp [e] at h
  | nd x y z =>
    simp [e] at h
    obtain ⟨rfl, rfl⟩ := h
    exact ⟨rfl, ⟨rfl, rfl, rfl, ⟨Nat.le_succ _, fun _ h => h, fun k hk _ => by show (Tr.nd x y z).get k = _; rw [← e, Tr.get_put, if_neg (Nat.ne_of_lt hk)]⟩⟩, rfl, rfl⟩

theorem setG_eq {o : GO} {g : Nat} (h : st.setG g o = some st') : SameT st st' ∧ st'.hp = Tr.put (some o) (pathOf g) st.hp ∧ st'.nx = st.nx := by
  obtain ⟨ntm, tm, hp, nx, lg, df⟩ := st
  simp only [St.setG] at h
  cases e : Tr.put (some o) (pathOf g) hp with
  | lf => simp [e] at h
  | nd x y z =>
    simp [e] at h
    subst h
    exact ⟨⟨rfl, rfl, rfl, ⟨Nat.le_refl _, fun _ h => List.mem_cons_of_mem _ h, fun k _ hn => by show (Tr.nd x y z).get k = _; rw [← e, Tr.get_put, if_neg (by rintro rfl; exact hn List.mem_cons_self)]⟩⟩, rfl, rfl⟩

theorem delG_eq {g : Nat} (h : st.delG g = some st') : SameT st st' ∧ st'.hp = Tr.put none (pathOf g) st.hp ∧ st'.nx = st.nx := by
  obtain ⟨ntm, tm, hp, nx, lg, df⟩ := st
  simp only [St.delG] at h
  cases e : Tr.put none (pathOf g) hp with
  | lf => simp [e] at h
  | nd x y z =>
    simp [e] at h
    subst h
    exact ⟨⟨rfl, rfl, rfl, ⟨Nat.le_refl _, fun _ h => List.mem_cons_of_mem _ h, fun k _ hn => by show (Tr.nd x y z).get k = _; rw [← e, Tr.get_put, if_neg (by rintro rfl; exact hn List.mem_cons_self)]⟩⟩, rfl, rfl⟩

theorem addM_eq {g ty hw m : Nat} {x : Mem} {ms : List Mem} (h : st.addM g ty hw x ms = some (m, st')) :
    m = st.nx ∧ SameT st st' ∧ st'.hp = Tr.put (some (.cells ty hw ({ x with m := st.nx } :: ms))) (pathOf g) st.hp ∧ st'.nx = st.nx + 1 := by
  obtain ⟨ntm, tm, hp, nx, lg, df⟩ := st
  simp only [St.addM] at h
  cases e : Tr.put (some (GO.cells ty hw ({ x with m := nx } :: ms))) (pathOf g) hp with
  | lf => simp [e] at h
  | nd x y z =>
    simp [e] at h
    obtain ⟨rfl, rfl⟩ := h
    exact ⟨rfl, ⟨rfl, rfl, rfl, ⟨Nat.le_succ _, fun _ h => List.mem_cons_of_mem _ h, fun k _ hn => by show (Tr.nd x y z).get k = _; rw [← e, Tr.get_put, if_neg (by rintro rfl; exact hn List.mem_cons_self)]⟩⟩, rfl, rfl⟩

@[simp] theorem getG_eq (g : Nat) : st.getG g = st.hp.get g := by cases st; rfl

theorem newCells_ok {ty g : Nat} {l : List AV} {xs : List Value} (h : HRs E B ρ st w) (hn : st.newCells ty l = some (g, st')) (hv : VRL ρ l xs) :
    ∃ ρ', HRs E B ρ' st' { w with heap := w.heap.push (.cells xs.toArray ty (0, 0)) } ∧ Evs ρ st w ρ' st' { w with heap := w.heap.push (.cells xs.toArray ty (0, 0)) } ∧ SameT st st' ∧
      ρ'.loc g 0 = some ⟨w.heap.size, 0, l.length⟩ ∧ g = st.nx := by
  obtain ⟨rfl, hs, hhp, hnx⟩ := newG_eq hn
  have hl := hv.length
  obtain ⟨h1, h2⟩ := HR.new h (.cells xs.toArray ty (0, 0)) (.cells ty (lenL l) [{ m := 0, fx := true, rel := 0, cs := l }]) 0 l.length rfl (by
    intro w' hw' hle
    refine ⟨fun x hx => ?_, fun x y hx hy _ _ _ _ _ => ?_, fun x y hx hy _ => ?_, fun x y hx hy _ => ?_⟩
    · simp at hx; subst hx
      refine ⟨by simp [lenL_eq], ⟨w.heap.size, 0, l.length⟩, xs.toArray, (0, 0), Ren.with_at _ _ _ _, hw', by simp, by simp [hl], fun _ => by simp [hl], fun i v e => ?_, fun o _ => by simp⟩
      obtain ⟨y, hy, hv'⟩ := hv.get e
      exact ⟨y, by simpa using hy, hv'.mono hle⟩
    all_goals (simp at hx hy; subst hx; subst hy; first | rfl | exact .inl rfl))
  refine ⟨ρ.with st.nx 0 ⟨w.heap.size, 0, l.length⟩, ?_, ?_, hs, Ren.with_at _ _ _ _, rfl⟩
  · unfold HRs; rw [hhp, hnx]; exact h1
  · unfold Evs; rw [hhp, hnx]; exact h2

theorem findM_mem {m : Nat} : ∀ {ms : List Mem} {x : Mem}, findM m ms = some x → x ∈ ms ∧ x.m = m
  | [], x, h => by simp [findM] at h
  | y :: ms, x, h => by
    simp only [findM] at h
    cases e : Nat.beq y.m m with
    | true => simp [e] at h; subst h; exact ⟨by simp, Nat.eq_of_beq_eq_true e⟩
    | false => simp [e] at h; obtain ⟨a, b⟩ := findM_mem h; exact ⟨by simp [a], b⟩

theorem cellsAt_ok {g m : Nat} {l : List AV} (h : HRs E B ρ st w) (hc : st.cellsAt E g m = some l) :
    ∃ L c ty fz, ρ.loc g m = some L ∧ w.heap[L.b]? = some (.cells c ty fz) ∧ ∀ (i : Nat) (v : AV), l[i]? = some v → ∃ y, c[L.s + i]? = some y ∧ VR ρ v y := by
  unfold St.cellsAt at hc
  cases hb : Nat.blt g NG with
  | true =>
    have hlt : g < NG := by simp [Nat.blt] at hb; omega
    simp [hb] at hc
    cases m with
    | succ m => simp at hc
    | zero =>
      simp at hc
      obtain ⟨c, ty, fz, h1, h2, h3⟩ := h.gcell g l hlt hc
      obtain ⟨t, ht⟩ := h.glob g hlt
      exact ⟨⟨g, 0, t⟩, c, ty, fz, ht, h1, by simpa using h3⟩
  | false =>
    simp [hb] at hc
    cases hg : st.hp.get g with
    | none => simp [hg] at hc
    | some o =>
      cases o <;> simp [hg] at hc
      rename_i ty hw ms
      cases hf : findM m ms with
      | none => simp [hf] at hc
      | some x =>
        simp [hf] at hc; subst hc
        obtain ⟨hx, rfl⟩ := findM_mem hf
        obtain ⟨_, L, c, fz, hL, hm⟩ := (h.obj g _ hg).2.2.1 x hx
        exact ⟨L, c, ty, fz, hL, hm.blk, hm.val⟩

theorem rd_ok {g m off n : Nat} {l : List AV} (h : HRs E B ρ st w) (hr : st.rd E g m off n = some l) :
    ∃ L c ty fz xs, ρ.loc g m = some L ∧ w.heap[L.b]? = some (.cells c ty fz) ∧ VRL ρ l xs ∧ xs.length = n ∧ ∀ j, j < xs.length → c[L.s + off + j]? = xs[j]? := by
  unfold St.rd at hr
  cases hc : st.cellsAt E g m with
  | none => simp [hc] at hr
  | some cs =>
    simp [hc] at hr
    obtain ⟨h1, h2⟩ := takeL_eq _ _ _ hr
    rw [dropL_eq] at h1 h2
    obtain ⟨L, c, ty, fz, hL, hb, hv⟩ := cellsAt_ok h hc
    subst h1
    have hlen : ((cs.drop off).take n).length = n := by simp at h2 ⊢; omega

    have key : ∀ j, j < n → ∃ y, c[L.s + off + j]? = some y ∧ ∃ v, ((cs.drop off).take n)[j]? = some v ∧ VR ρ v y := by
      intro j hj
      have hj' : off + j < cs.length := by simp at h2; omega
      obtain ⟨y, hy, hv'⟩ := hv (off + j) cs[off + j] (by simp [hj'])
      refine ⟨y, by rw [← hy, Nat.add_assoc], cs[off + j], ?_, hv'⟩
      rw [List.getElem?_take, if_pos hj, List.getElem?_drop]
      simp [hj']
    refine ⟨L, c, ty, fz, (List.range n).map fun j => (c[L.s + off + j]?).getD undef, hL, hb, ?_, by simp, ?_⟩
    · refine .of_get (by simp [hlen]) fun i v y hv' hy => ?_
      have hi : i < n := by
        rcases Nat.lt_or_ge i n with k | k
        · exact k
        · rw [List.getElem?_eq_none (by rw [hlen]; exact k)] at hv'; cases hv'
      obtain ⟨z, hz, v', hv1, hv2⟩ := key i hi
      rw [hv1] at hv'; cases hv'
      simp [hi] at hy
      rw [hz] at hy; simp at hy; subst hy; exact hv2
    · intro j hj
      have hj' : j < n := by simpa using hj
      obtain ⟨z, hz, _⟩ := key j hj'
      simp [hj', hz]

theorem allPlain_one {l : List AV} {xs : List Value} (hone : ∀ i, (ρ.tok i).oneCell' = true) (h : allPlain l = true) (hv : VRL ρ l xs) : ∀ x, x ∈ xs → x.oneCell' = true := by
  induction l generalizing xs with
  | nil => cases hv; simp
  | cons v l ih =>
    cases hv with
    | cons _ x _ xs hx hs =>
      simp only [allPlain] at h
      cases hp : v.plain with
      | false => simp [hp] at h
      | true =>
        simp [hp] at h
        intro y hy
        rcases List.mem_cons.1 hy with rfl | hy
        · cases hx <;> first | rfl | exact hone _ | (simp [AV.plain] at hp)
        · exact ih h hs y hy

theorem wr_ok {g m off : Nat} {vs : List AV} {xs : List Value} (h : HRs E B ρ st w) (hw : st.wr E g m off vs = some st') (hv : VRL ρ vs xs) :
    ∃ L w', ρ.loc g m = some L ∧ (storeCells ⟨L.b, L.s + off, none⟩ xs).run P w = .ok () w' ∧ HRs E B ρ st' w' ∧ Evs ρ st w ρ st' w' ∧ SameT st st' := by
  unfold St.wr at hw
  cases hb : Nat.blt g NG with
  | true => simp [hb] at hw
  | false =>
    simp [hb] at hw
    cases hg : st.hp.get g with
    | none => simp [hg] at hw
    | some o =>
      cases o <;> simp [hg] at hw
      rename_i ty hwm ms
      cases hf : findM m ms with
      | none => simp [hf] at hw
      | some x =>
        simp [hf] at hw
        cases hp : allPlain vs with
        | false => simp [hp] at hw
        | true =>
          cases ho : overL vs off x.cs with
          | none => simp [hp, ho] at hw
          | some cs =>
            simp [hp, ho] at hw
            obtain ⟨hs, hhp, hnx⟩ := setG_eq hw
            obtain ⟨hx, rfl⟩ := findM_mem hf
            obtain ⟨hrel, L, c, fz, hL, hm⟩ := (h.obj g _ hg).2.2.1 x hx
            obtain ⟨hcs, hlen⟩ := overL_eq vs off x.cs cs ho
            have hvl := hv.length

            by_cases hnil : vs = []
            · subst hnil
              have hx0 : xs = [] := by simpa using hvl.symm
              subst hx0
              refine ⟨L, w, hL, by simp [storeCells], ?_, ?_, hs⟩
              all_goals
                have hcs' : cs = x.cs := by rw [hcs]; simp
                have hxx : ({ x with cs := cs } : Mem) = x := by rw [hcs']
                have := HR.turn h hg (o' := .cells ty hwm [{ x with cs := cs }]) (w' := w) rfl rfl rfl rfl (fun _ _ _ => rfl) (fun q hq => by simp [memsOf] at hq ⊢; exact ⟨x, hx, hq.symm⟩) (by
                  rw [hxx]
                  refine ⟨fun y hy => ?_, fun y z hy hz _ _ _ _ _ => ?_, fun y z hy hz _ => ?_, fun y z hy hz _ => ?_⟩
                  · simp at hy; subst hy; exact ⟨hrel, L, c, fz, hL, hm⟩
                  all_goals (simp at hy hz; subst hy; subst hz; first | rfl | exact .inl rfl))
              · unfold HRs; rw [hhp, hnx]; exact this.1
              · unfold Evs; rw [hhp, hnx]; exact this.2
            · have hlen' : off + vs.length ≤ x.cs.length := hlen.resolve_left hnil
              have hvpos : 0 < vs.length := by
                cases vs with
                | nil => exact absurd rfl hnil
                | cons _ _ => simp
              obtain ⟨w', c', hr, hwr⟩ := run_storeCells (P := P) (L.s + off) xs 0 w c hm.blk (allPlain_one h.one hp hv) (by have := hm.len; have := hm.lim; omega) hm.soft
              have hcl : cs.length = x.cs.length := by
                rw [hcs]; simp; omega
              have hobj : ObjR ρ w' g (.cells ty hwm [{ x with cs := cs }]) := by
                refine ⟨fun y hy => ?_, fun y z hy hz _ _ _ _ _ => ?_, fun y z hy hz _ => ?_, fun y z hy hz _ => ?_⟩
                · simp at hy; subst hy
                  refine ⟨by simpa [hcl] using hrel, L, c', fz, hL, hwr.blk, by simpa [hcl] using hm.len, by rw [hwr.size]; exact hm.lim, fun hfx => by simpa [hcl, hwr.size] using hm.fx hfx, fun i v e => ?_, by rw [hwr.size]; exact hm.soft⟩
                  simp only at e
                  rw [hcs] at e
                  by_cases h1 : i < off
                  · rw [List.append_assoc, List.getElem?_append_left (by simp; omega), List.getElem?_take, if_pos h1] at e
                    obtain ⟨y, hy, hvy⟩ := hm.val i v e
                    exact ⟨y, by rw [hwr.old _ (by omega)]; exact hy, hvy⟩
                  · by_cases h2 : i < off + vs.length
                    · rw [List.getElem?_append_left (by simp; omega), List.getElem?_append_right (by simp; omega)] at e
                      have e' : vs[i - off]? = some v := by simpa [Nat.min_eq_left (show off ≤ x.cs.length by omega)] using e
                      obtain ⟨y, hy, hvy⟩ := hv.get e'
                      refine ⟨y, ?_, hvy⟩
                      have := hwr.new (i - off) (by omega)
                      rw [show L.s + off + 0 + (i - off) = L.s + i by omega] at this
                      rw [this]; exact hy
                    · rw [List.getElem?_append_right (by simp; omega), List.getElem?_drop] at e
                      have e' : x.cs[i]? = some v := by
                        rw [← e]; congr 1; simp; omega
                      obtain ⟨y, hy, hvy⟩ := hm.val i v e'
                      exact ⟨y, by rw [hwr.old _ (by omega)]; exact hy, hvy⟩
                all_goals (simp at hy hz; subst hy; subst hz; first | rfl | exact .inl rfl)
              have := HR.turn h hg (o' := .cells ty hwm [{ x with cs := cs }]) (w' := w') hwr.os hwr.tape hwr.output hwr.heap (fun r _ hn => hwr.other r fun e => hn ⟨_, x.m, L, hg, by simp [memsOf]; exact ⟨x, hx, rfl⟩, hL, e.symm⟩) (fun q hq => by simp [memsOf] at hq ⊢; exact ⟨x, hx, hq.symm⟩) hobj
              refine ⟨L, w', hL, hr, ?_, ?_, hs⟩
              · unfold HRs; rw [hhp, hnx]; exact this.1
              · unfold Evs; rw [hhp, hnx]; exact this.2

end Go.Proofs.YtcedalofcekdkaaGreatDoor.Ex
end

section
namespace Go.Proofs.YtcedalofcekdkaaGreatDoor.Ex

inductive UKok (P : Program) : UK → TypeDesc → Prop
  | bool : UKok P .bool .bool
  | int (k : IntKind) : UKok P (.int k) (.int k)
  | str : UKok P .str .string
  | ptr (e : Nat) : UKok P (.ptr e) (.pointer e)
  | unsafep : UKok P .unsafep .unsafePointer
  | slice (e : Nat) : UKok P (.slice e) (.slice e)
  | array (n e : Nat) : UKok P (.array n e) (.array n e)
  | map (k e : Nat) : UKok P (.map k e) (.map k e)
  | struct (fs : List (Nat × Nat × Nat)) (gs : Array Field) (hl : fs.length = gs.size)
      (h : ∀ (i : Nat) x, fs[i]? = some x → ∃ g, gs[i]? = some g ∧ g.offset = x.1 ∧ g.type = x.2.1 ∧ ∃ j, P.info? x.2.1 = some j ∧ j.size = x.2.2) : UKok P (.struct fs) (.struct gs)
  | iface (m : Array (String × TypeId)) : UKok P .iface (.interface m)
  | func (a b : Array TypeId) (v : Bool) : UKok P .func (.func a b v)
  | other (d : TypeDesc) (h : ∀ m, d ≠ .interface m) : UKok P .other d

def aggD : TypeDesc → Bool
  | .struct _ => true
  | .array _ _ => true
  | _ => false

structure TIok (P : Program) (t : Nat) (i : TI) : Prop where
  und : ∃ d, P.underlying t = some d ∧ UKok P i.u d ∧ i.isAgg = aggD d
  info : ∃ f z, P.info? t = some f ∧ f.size = i.size ∧ f.bytes = i.bytes ∧ f.zero = some z ∧ (∀ ρ, VRL ρ i.zero z.cells.toList) ∧ (i.isAgg = true → ∃ cs, z = .agg cs) ∧ i.zero.length = i.size

structure EnvOK (P : Program) (E : Env) (B : Nat) : Prop where
  fn : ∀ f F, E.fn f = some F → ∃ g, P.funcs[f]? = some g ∧ g.body = some F.body ∧ g.ntmps = F.ntm ∧ g.results.toList = F.res ∧ ∀ (args : Array Value) (w : World), (callFunc f args).run P w = .ok (.enter f args) w
  ti : ∀ t i, E.ti t = some i → TIok P t i

section
variable {P : Program} {E : Env} {B : Nat} {w : World} {t : Nat} {i : TI}

theorem TIok.underlying (h : TIok P t i) : ∃ d, (∀ w, (Go.underlying t).run P w = .ok d w) ∧ UKok P i.u d ∧ i.isAgg = aggD d := by
  obtain ⟨d, hd, hu, ha⟩ := h.und
  exact ⟨d, fun w => by simp [Go.underlying, hd], hu, ha⟩

theorem TIok.sizeOf (h : TIok P t i) (w : World) : (Go.sizeOf t).run P w = .ok i.size w := by
  obtain ⟨f, z, hf, hs, _⟩ := h.info
  simp [Go.sizeOf, typeInfo, hf, hs]

theorem TIok.typeInfo (h : TIok P t i) : ∃ f, (∀ w, (Go.typeInfo t).run P w = .ok f w) ∧ f.bytes = i.bytes ∧ f.size = i.size := by
  obtain ⟨f, z, hf, hs, hb, _⟩ := h.info
  exact ⟨f, fun w => by simp [Go.typeInfo, hf], hb, hs⟩

theorem TIok.isAgg_run (h : TIok P t i) (w : World) : (isAgg t).run P w = .ok i.isAgg w := by
  obtain ⟨d, hd, hu, ha⟩ := h.underlying
  rw [ha]
  simp only [isAgg, Sem.run_bind, hd, Result.andThen_ok]
  cases d <;> simp [aggD]

theorem TIok.zero (h : TIok P t i) : ∃ z, (∀ w, (zeroValue t).run P w = .ok z w) ∧ (∀ ρ, VRL ρ i.zero z.cells.toList) ∧ (i.isAgg = true → ∃ cs, z = .agg cs) ∧ i.zero.length = i.size := by
  obtain ⟨f, z, hf, hs, hb, hz, h1, h2, h3⟩ := h.info
  exact ⟨z, fun w => by simp [zeroValue, Go.typeInfo, hf, hz], h1, h2, h3⟩

theorem mk_ok {ρ : Ren} {b : Bool} {l : List AV} {v : AV} {xs : List Value} (h : mk b l = some v) (hv : VRL ρ l xs) : VR ρ v (if b then .agg xs.toArray else xs.headD undef) ∧ (b = false → xs.length = 1) := by
  cases b with
  | true => simp [mk] at h; subst h; exact ⟨.agg _ _ hv, by simp⟩
  | false =>
    match l, hv, h with
    | [a], .cons _ x _ _ hx .nil, h => simp [mk] at h; subst h; exact ⟨by simpa using hx, by simp⟩

theorem cells_ok {ρ : Ren} {v : AV} {x : Value} (hone : ∀ i, (ρ.tok i).oneCell' = true) (h : VR ρ v x) : VRL ρ v.cells x.cells.toList := by
  cases h <;> first
    | (simp only [AV.cells, Value.cells]; exact .cons _ _ _ _ (by first | assumption | constructor <;> assumption) .nil)
    | skip
  case agg l x h => simpa [AV.cells, Value.cells] using h
  case tok i =>
    have h1 := hone i
    have : (ρ.tok i).cells = #[ρ.tok i] := by
      cases e : ρ.tok i <;> first | rfl | (rw [e] at h1; simp [Value.oneCell'] at h1)
    rw [this]
    exact .cons _ _ _ _ (.tok i) .nil
end

theorem map_toNat_bytes (s : ByteArray) : bytes (s.data.toList.map UInt8.toNat) = s := by
  unfold bytes
  simp [List.map_map, Function.comp_def]

theorem const1_ok {ρ : Ren} {v : Value} {x : AV} (h : const1 v = some x) : VR ρ x v := by
  unfold const1 at h
  split at h <;> simp at h <;> subst h <;> first | constructor | skip
  rename_i s
  have := VR.str (ρ := ρ) (s.data.toList.map UInt8.toNat)
  rw [map_toNat_bytes] at this
  simpa using this

theorem constL_ok {ρ : Ren} : ∀ {l : List Value} {r : List AV}, constL l = some r → VRL ρ r l
  | [], r, h => by simp [constL] at h; subst h; exact .nil
  | v :: l, r, h => by
    simp only [constL] at h
    cases e : const1 v with
    | none => simp [e] at h
    | some x =>
      cases e2 : constL l with
      | none => simp [e, e2] at h
      | some q => simp [e, e2] at h; subst h; exact .cons _ _ _ _ (const1_ok e) (constL_ok e2)

theorem constAV_ok {ρ : Ren} {v : Value} {x : AV} (h : constAV v = some x) : VR ρ x v := by
  unfold constAV at h
  split at h
  · simp at h; subst h; exact .func _ _ _ _ _ (by intro l e; cases e) .nil .nil
  · rename_i t v
    cases e : const1 v with
    | none => simp [e] at h
    | some y => simp [e] at h; subst h; exact .iface _ _ _ (const1_ok e)
  · rename_i l
    cases e : constL l with
    | none => simp [e] at h
    | some y => simp [e] at h; subst h; exact .agg _ _ (constL_ok e)
  · exact const1_ok h

end Go.Proofs.YtcedalofcekdkaaGreatDoor.Ex
end

section
namespace Go.Proofs.YtcedalofcekdkaaGreatDoor.Ex
section
variable {E : Env} {B : Nat} {ρ : Ren} {st st' : St} {w : World}

theorem restT_ok {g m off l z nm : Nat} {cx : Value} (h : HRs E B ρ st w) (hx : VR ρ (.sr g m off l z) cx) (hs : restT st g m off l z = some (nm, st')) :
    ∃ ρ', VR ρ' (.su g nm 0 0 z) cx ∧ HRs E B ρ' st' w ∧ Evs ρ st w ρ' st' w ∧ SameT st st' := by
  unfold restT at hs
  cases c3 : Nat.blt g NG <;> simp only [c3] at hs <;> first | (cases hs; done) | skip
  rw [getG_eq] at hs
  cases ho : st.hp.get g with
  | none => simp [ho] at hs
  | some o =>
    cases o <;> simp only [ho] at hs <;> first | (cases hs; done) | skip
    rename_i ty hw ms
    cases hf : findM m ms with
    | none => simp [hf] at hs
    | some y =>
      simp only [hf] at hs
      cases hfx : y.fx with
      | true => simp [hfx] at hs
      | false =>
        cases ht : takeL (l * z) (dropL off y.cs) with
        | none => simp [hfx, ht] at hs
        | some old =>
        simp only [hfx, ht] at hs
        have ea := hs
        obtain ⟨rfl, hs', hhp, hnx⟩ := addM_eq ea
        obtain ⟨hy, rfl⟩ := findM_mem hf
        have hng := (h.obj g _ ho).1
        obtain ⟨hO1, hO2, hO3, hO4⟩ := (h.obj g _ ho).2.2
        obtain ⟨hrel, L, c, fz, hL, hm⟩ := hO1 y hy
        obtain ⟨t1, t2⟩ := takeL_eq _ _ _ ht
        rw [dropL_eq] at t1 t2
        cases hx with
        | sr _ _ _ _ _ L' hL' hz hlpos hc =>
          rw [hL] at hL'; cases hL'
          have hlz : 0 < l * z := Nat.mul_pos hlpos hz
          have hoff : off + l * z ≤ y.cs.length := by simp at t2; omega
          have hnone : ρ.loc g st.nx = none := h.none_of_le (.inr (Nat.le_refl _))
          have hcap : l ≤ (L.t - L.s - off) / z := by rw [Nat.le_div_iff_mul_le hz]; omega
          have hblk : ∀ q, q ∈ ms → ∀ N, ρ.loc g q.m = some N → BlkOf ρ st.hp g N.b := fun q hq N hN => ⟨_, q.m, N, ho, by simp [memsOf]; exact ⟨q, hq, rfl⟩, hN, rfl⟩

          have common : ∀ M : Loc, M.b = L.b → M.s ≤ M.t → M.t ≤ c.size → (M.s = M.t ∨ M.s = L.s + off + l * z) →
              HR E B (ρ.with g st.nx M) (Tr.put (some (.cells ty hw ({ m := st.nx, fx := false, rel := y.rel + off + l * z, cs := [] } :: ms))) (pathOf g) st.hp) (st.nx + 1) w ∧
              Ev ρ st.hp st.nx w (ρ.with g st.nx M) (Tr.put (some (.cells ty hw ({ m := st.nx, fx := false, rel := y.rel + off + l * z, cs := [] } :: ms))) (pathOf g) st.hp) (st.nx + 1) w := by
            intro M hMb hM1 hM2 hM3
            have hle := Ren.le_with (ρ := ρ) (g := g) (m := st.nx) M hnone
            refine h.update hle g _ ?_ (Nat.le_succ _) ?_ hng (Nat.lt_succ_of_lt (h.obj g _ ho).2.1) rfl rfl rfl (Nat.le_refl _) (fun _ _ _ => rfl) ?_
            · intro g' m' N hN
              unfold Ren.with at hN
              by_cases cc : g' = g ∧ m' = st.nx
              · obtain ⟨rfl, rfl⟩ := cc; exact ⟨Nat.lt_succ_of_lt (h.obj g' _ ho).2.1, Nat.lt_succ_self _⟩
              · simp only [cc, if_false] at hN; have := h.fresh g' m' N hN; omega
            · intro g' m' N hN
              unfold Ren.with at hN
              by_cases cc : g' = g ∧ m' = st.nx
              · simp only [cc, and_self, if_true, Option.some.injEq] at hN
                subst hN
                exact .inr ⟨cc.1, .inl (by rw [hMb]; exact hblk y hy L hL), .inr (by omega)⟩
              · simp only [cc, if_false] at hN; exact .inl hN
            · intro o2 eo
              cases eo
              have co : ∀ q, q ∈ ms → ∀ N, ρ.loc g q.m = some N → M.b = N.b → M.s = M.t ∨ N.s = N.t ∨ M.s + q.rel = N.s + (y.rel + off + l * z) := by
                intro q hq N hN e
                rcases hO2 q y hq hy N L hN hL (by rw [← e, hMb]) with rfl | x | x | x
                · rw [hL] at hN; cases hN
                  rcases hM3 with z | z
                  · exact .inl z
                  · exact .inr (.inr (by omega))
                · exact .inr (.inl x)
                · omega
                · rcases hM3 with z | z
                  · exact .inl z
                  · exact .inr (.inr (by omega))
              refine ⟨⟨fun q hq => ?_, fun q r hq hr' N K hN hK e => ?_, fun q r hq hr' e => ?_, fun q r hq hr' e => ?_⟩, fun m' N hm' hN => ?_⟩
              · rcases List.mem_cons.1 hq with rfl | hq
                · refine ⟨by simp; omega, M, c, fz, Ren.with_at _ _ _ _, by rw [hMb]; exact hm.blk, by simpa using hM1, hM2, fun hh => by simp at hh, fun i u eu => by simp at eu, hm.soft⟩
                · obtain ⟨hqr, N, d', fq, hN, hmr⟩ := hO1 q hq
                  exact ⟨hqr, N, d', fq, hle.loc _ _ _ hN, hmr.blk, hmr.len, hmr.lim, hmr.fx, fun i u eu => let ⟨p, hp, hvp⟩ := hmr.val i u eu; ⟨p, hp, hvp.mono hle⟩, hmr.soft⟩
              · rcases List.mem_cons.1 hq with rfl | hq <;> rcases List.mem_cons.1 hr' with rfl | hr'
                · exact .inl rfl
                · rw [Ren.with_at] at hN; cases hN
                  obtain ⟨_, K', _, _, hK', _⟩ := hO1 r hr'
                  have := hle.loc _ _ _ hK'; rw [this] at hK; cases hK
                  rcases co r hr' _ hK' e with x | x | x
                  · exact .inr (.inl x)
                  · exact .inr (.inr (.inl x))
                  · exact .inr (.inr (.inr x))
                · rw [Ren.with_at] at hK; cases hK
                  obtain ⟨_, N', _, _, hN', _⟩ := hO1 q hq
                  have := hle.loc _ _ _ hN'; rw [this] at hN; cases hN
                  rcases co q hq _ hN' e.symm with x | x | x
                  · exact .inr (.inr (.inl x))
                  · exact .inr (.inl x)
                  · exact .inr (.inr (.inr x.symm))
                · obtain ⟨_, N', _, _, hN', _⟩ := hO1 q hq
                  obtain ⟨_, K', _, _, hK', _⟩ := hO1 r hr'
                  have a1 := hle.loc _ _ _ hN'; rw [a1] at hN; cases hN
                  have a2 := hle.loc _ _ _ hK'; rw [a2] at hK; cases hK
                  exact hO2 q r hq hr' _ _ hN' hK' e
              · rcases List.mem_cons.1 hq with rfl | hq <;> rcases List.mem_cons.1 hr' with rfl | hr'
                · rfl
                · obtain ⟨_, K', _, _, hK', _⟩ := hO1 r hr'; simp only at e; rw [← e, hnone] at hK'; cases hK'
                · obtain ⟨_, K', _, _, hK', _⟩ := hO1 q hq; simp only at e; rw [e, hnone] at hK'; cases hK'
                · exact hO3 q r hq hr' e
              · rcases List.mem_cons.1 hq with rfl | hq
                · simp at e
                · exact absurd (hO4 q y hq hy e) (fun hqy => by rw [hqy, hfx] at e; cases e)
              · simp only [memsOf, List.map_cons, List.mem_cons, List.mem_map] at hm'
                rcases hm' with rfl | ⟨q, hq, rfl⟩
                · rw [Ren.with_at] at hN; cases hN
                  exact .inl (by rw [hMb]; exact hblk y hy L hL)
                · obtain ⟨_, N', _, _, hN', _⟩ := hO1 q hq
                  have a1 := hle.loc _ _ _ hN'; rw [a1] at hN; cases hN
                  exact .inl (hblk q hq _ hN')
          by_cases hC : (L.t - L.s - off) / z = l
          · obtain ⟨b1, b2⟩ := common ⟨L.b, L.s + off, L.s + off⟩ rfl (Nat.le_refl _) (by have := hm.lim; simp only; omega) (.inl rfl)
            refine ⟨ρ.with g st.nx ⟨L.b, L.s + off, L.s + off⟩, ?_, ?_, ?_, hs'⟩
            · have := VR.su (ρ := ρ.with g st.nx ⟨L.b, L.s + off, L.s + off⟩) g st.nx 0 0 z _ (Ren.with_at _ _ _ _) hz (by simp)
              simpa [hC] using this
            · unfold HRs; rw [hhp, hnx]; exact b1
            · unfold Evs; rw [hhp, hnx]; exact b2
          · obtain ⟨b1, b2⟩ := common ⟨L.b, L.s + off + l * z, L.t⟩ rfl hc hm.lim (.inr rfl)
            refine ⟨ρ.with g st.nx ⟨L.b, L.s + off + l * z, L.t⟩, ?_, ?_, ?_, hs'⟩
            · have := VR.su (ρ := ρ.with g st.nx ⟨L.b, L.s + off + l * z, L.t⟩) g st.nx 0 0 z _ (Ren.with_at _ _ _ _) hz (by simpa using hc)
              have hq : (L.t - (L.s + off + l * z)) / z = (L.t - L.s - off) / z - l := by
                rw [← Nat.sub_sub, ← Nat.sub_sub, Nat.mul_comm l, Nat.sub_mul_div]
              simpa [hq, hC] using this
            · unfold HRs; rw [hhp, hnx]; exact b1
            · unfold Evs; rw [hhp, hnx]; exact b2

end
end Go.Proofs.YtcedalofcekdkaaGreatDoor.Ex
end

section
namespace Go.Proofs.YtcedalofcekdkaaGreatDoor.Ex

def OpPost (P : Program) (E : Env) (B : Nat) (ops : Array Oper) (b : Frame) (k : List Item) (cs : List Frame) (i : Nat) (rest : List Nat) (ρ : Ren) (st : St) (a : Act) (w : World) : Unit → St → Prop :=
  fun _ st' => ∃ ρ' a' w', Steps P (lone (b.atR a (.inRegion ops (i :: rest) :: k)) cs w) (lone (b.atR a' (.inRegion ops rest :: k)) cs w') ∧ Inv E B ρ' st' a' w' ∧ Evs ρ st w ρ' st' w' ∧ Logs st st' ∧ ∃ o x, ops[i]? = some o ∧ a' = a.put o.dst x

structure Here (ops : Array Oper) (i : Nat) (o : Oper) (a : Act) : Prop where
  at_ : ops[i]? = some o
  wanted : Region.wanted o (yielded ops a.tmps) = true
  noDefer : ∀ c, o.op ≠ .defer c

def Ran (P : Program) (E : Env) (B : Nat) (ρ : Ren) (st : St) (a : Act) (w : World) (o : Oper) (st' : St) (v : AV) : Prop :=
  ∃ x w' ρ' n, (execOp a.eval o).run P w = .ok n w' ∧ (n = .value x ∨ (n = .skip ∧ x = undef)) ∧ VR ρ' v x ∧ HRs E B ρ' st' w' ∧ Evs ρ st w ρ' st' w' ∧ SameT st st'

section
variable {P : Program} {E : Env} {B : Nat} {ops : Array Oper} {b : Frame} {k : List Item} {cs : List Frame} {i : Nat} {rest : List Nat} {o : Oper}
variable {ρ : Ren} {st st' : St} {a : Act} {w : World} {v : AV}

theorem lay_ok {d : Option Nat} {x : Value} (htr : TR ρ st.ntm st.tm a.tmps)
    (hdf : ∃ bs : List Nat, a.defers = bs.map (fun b => { target := .collected b, args := #[] }) ∧ bs.length = st.df.length ∧ ∀ (i : Nat) g b, st.df[i]? = some g → bs[i]? = some b → ∃ L, ρ.loc g 0 = some L ∧ L.b = b)
    (hhr : HRs E B ρ st w) (hv : VR ρ v x) : (fin st d v).Holds fun _ s => Inv E B ρ s (a.put d x) w ∧ s.hp = st.hp ∧ s.nx = st.nx ∧ Logs st s := by
  cases d with
  | none => exact ⟨⟨htr, hdf, hhr⟩, rfl, rfl, .refl _⟩
  | some t =>
    obtain ⟨ntm, tm, hp, nx, lg, df⟩ := st
    simp only [fin, finT]
    cases hb : Nat.blt t ntm with
    | false => trivial
    | true =>
      have ht : t < ntm := by simp [Nat.blt] at hb; omega
      cases e : Tr.put (some v) (pathOf t) tm with
      | lf => trivial
      | nd p q r =>
        refine ⟨⟨⟨by simpa [Act.put] using htr.size, fun n u hn => ?_⟩, hdf, hhr⟩, rfl, rfl, ⟨Nat.le_refl _, fun _ h => h, fun _ _ _ => rfl⟩⟩
        simp only at hn
        rw [← e, Tr.get_put] at hn
        have hsz : ntm ≤ a.tmps.size := htr.size
        by_cases c : n = t
        · subst c
          simp at hn; subst hn
          exact ⟨x, by simp [Act.put, Array.getElem?_setIfInBounds]; omega, hv⟩
        · simp only [c, if_false] at hn
          obtain ⟨y, hy, hvy⟩ := htr.val n u hn
          refine ⟨y, ?_, hvy⟩
          simp only [Act.put, Array.getElem?_setIfInBounds]
          rw [if_neg (fun e => c e.symm)]
          exact hy

theorem fin_ran (H : Here ops i o a) (hi : Inv E B ρ st a w) (hr : Ran P E B ρ st a w o st' v) :
    (fin st' o.dst v).Holds (OpPost P E B ops b k cs i rest ρ st a w) := by
  obtain ⟨x, w', ρ', n, hrun, hn, hv, hh, hev, hs⟩ := hr
  refine Out.Holds.mono (lay_ok (d := o.dst) (a := a) ?_ ?_ hh hv) ?_
  · rw [hs.ntm, hs.tm]; exact hi.tr.mono hev.le
  · rw [hs.df]; exact Inv.mono_df hev.le hi.df
  · rintro _ s ⟨hinv, e1, e2, e3⟩
    refine ⟨ρ', a.put o.dst x, w', ?_, hinv, by unfold Evs; rw [e1, e2]; exact hev, hs.log.trans e3, _, _, H.at_, rfl⟩
    rcases hn with rfl | ⟨rfl, rfl⟩
    · exact .one (stepR_value H.at_ H.wanted H.noDefer hrun)
    · exact .one (stepR_skipped H.at_ H.wanted H.noDefer hrun)

theorem ran_pure {x : Value} (hi : Inv E B ρ st a w) (hrun : (execOp a.eval o).run P w = .ok (.value x) w) (hv : VR ρ v x) : Ran P E B ρ st a w o st v :=
  ⟨x, w, ρ, _, hrun, .inl rfl, hv, hi.hr, Ev.refl _ _ _ _, .refl _⟩

theorem evT_ok {t : Nat} (hi : Inv E B ρ st a w) (h : evT t st = some v) : VR ρ v (a.tmps.getD t undef) := by
  obtain ⟨ntm, tm, hp, nx, lg, df⟩ := st
  obtain ⟨x, hx, hv⟩ := hi.tr.val t v h
  have : a.tmps.getD t undef = x := by simp [Array.getD_eq_getD_getElem?, hx]
  rw [this]; exact hv

theorem ev_ok {x : Operand} (hi : Inv E B ρ st a w) (h : ev x st = some v) : VR ρ v (a.eval x) := by
  cases x with
  | tmp t => exact evT_ok hi h
  | const c => exact constAV_ok h
  | global g =>
    simp only [ev] at h
    cases hb : Nat.blt g NG with
    | false => simp [hb] at h
    | true =>
      simp [hb] at h; subst h
      obtain ⟨t, ht⟩ := hi.hr.glob g (by simp [Nat.blt] at hb; omega)
      exact .ptr g 0 0 ⟨g, 0, t⟩ ht
  | func f => simp [ev] at h; subst h; exact .func _ _ _ _ _ (by intro l e; cases e) .nil .nil

theorem evs_ok : ∀ {l : List Operand} {vs : List AV}, Inv E B ρ st a w → evs st l = some vs → VRL ρ vs (l.map a.eval)
  | [], vs, _, h => by simp [evs] at h; subst h; exact .nil
  | x :: l, vs, hi, h => by
    simp only [evs, St.ev] at h
    cases e : ev x st with
    | none => simp [e] at h
    | some v =>
      cases e2 : evs st l with
      | none => simp [e, e2] at h
      | some q => simp [e, e2] at h; subst h; exact .cons _ _ _ _ (ev_ok hi e) (evs_ok hi e2)

theorem move_ok {x : Operand} (H : Here ops i o a) (hi : Inv E B ρ st a w) (ho : o.op = .move x ∨ o.op = .assign x) (E' : Env) (self : Self) :
    (hMove x E' self o.dst st).Holds (OpPost P E B ops b k cs i rest ρ st a w) := by
  simp only [hMove, finO]
  cases e : ev x st with
  | none => trivial
  | some v =>
    refine fin_ran H hi (ran_pure hi ?_ (ev_ok hi e))
    rcases ho with ho | ho <;> simp [execOp, ho]

theorem pick_ok {c x y : Operand} (H : Here ops i o a) (hi : Inv E B ρ st a w) (ho : o.op = .pick c x y) (E' : Env) (self : Self) :
    (hPick c x y E' self o.dst st).Holds (OpPost P E B ops b k cs i rest ρ st a w) := by
  simp only [hPick]
  cases e : ev c st with
  | none => trivial
  | some v =>
    have hv := ev_ok hi e
    cases v <;> try trivial
    rename_i t
    cases t with
    | true =>
      simp only [finO]
      cases e2 : ev x st with
      | none => trivial
      | some u =>
        refine fin_ran H hi (ran_pure hi ?_ (ev_ok hi e2))
        generalize hc : a.eval c = cv at hv
        cases hv
        simp [execOp, ho, asBool, hc]
    | false =>
      simp only [finO]
      cases e2 : ev y st with
      | none => trivial
      | some u =>
        refine fin_ran H hi (ran_pure hi ?_ (ev_ok hi e2))
        generalize hc : a.eval c = cv at hv
        cases hv
        simp [execOp, ho, asBool, hc]

theorem alloc_ok (hE : EnvOK P E B) {t : Nat} (H : Here ops i o a) (hi : Inv E B ρ st a w) (ho : o.op = .alloc t) (self : Self) :
    (hAlloc t E self o.dst st).Holds (OpPost P E B ops b k cs i rest ρ st a w) := by
  simp only [hAlloc]
  cases e : E.ti t with
  | none => trivial
  | some ti =>
    obtain ⟨z, hz, hzv, _, _⟩ := (hE.ti t ti e).zero
    simp only
    cases en : st.newCells t ti.zero with
    | none => trivial
    | some p =>
      obtain ⟨g, s⟩ := p
      obtain ⟨ρ', h1, h2, h3, h4, _⟩ := newCells_ok hi.hr en (hzv ρ)
      refine fin_ran H hi ⟨.pointer (some ⟨w.heap.size, 0, none⟩), _, ρ', _, ?_, .inl rfl, ?_, h1, h2, h3⟩
      · simp [execOp, ho, Instr.alloc, hz, newVar, newRow]
      · simpa using VR.ptr (ρ := ρ') g 0 0 _ h4

theorem box_ok {t : Nat} {x : Operand} (H : Here ops i o a) (hi : Inv E B ρ st a w) (ho : o.op = .box t x) (E' : Env) (self : Self) :
    (hBox t x E' self o.dst st).Holds (OpPost P E B ops b k cs i rest ρ st a w) := by
  simp only [hBox]
  cases e : ev x st with
  | none => trivial
  | some v =>
    simp only
    cases en : st.newCells t v.cells with
    | none => trivial
    | some p =>
      obtain ⟨g, s⟩ := p
      obtain ⟨ρ', h1, h2, h3, h4, _⟩ := newCells_ok hi.hr en (cells_ok hi.hr.one (ev_ok hi e))
      refine fin_ran H hi ⟨.pointer (some ⟨w.heap.size, 0, none⟩), _, ρ', _, ?_, .inl rfl, ?_, h1, h2, h3⟩
      · simp [execOp, ho, Instr.box, newVar, newRow]
      · simpa using VR.ptr (ρ := ρ') g 0 0 _ h4

theorem load_ok (hE : EnvOK P E B) {t : Nat} {x : Operand} (H : Here ops i o a) (hi : Inv E B ρ st a w) (ho : o.op = .load t x) (self : Self) :
    (hLoad t x E self o.dst st).Holds (OpPost P E B ops b k cs i rest ρ st a w) := by
  simp only [hLoad]
  cases e : ev x st with
  | none => trivial
  | some v =>
    have hv := ev_ok hi e
    cases v <;> try trivial
    rename_i g m off
    cases et : E.ti t with
    | none => trivial
    | some ti =>
      simp only
      cases er : st.rd E g m off ti.size with
      | none => trivial
      | some l =>
        simp only [finO]
        cases em : mk ti.isAgg l with
        | none => trivial
        | some u =>
          obtain ⟨L, c, ty, fz, xs, hL, hb, hvl, hlen, hc⟩ := rd_ok hi.hr er
          have hT := hE.ti t ti et
          obtain ⟨hm1, hm2⟩ := mk_ok em hvl
          refine fin_ran H hi (ran_pure hi (x := if ti.isAgg then .agg xs.toArray else xs.headD undef) ?_ hm1)
          generalize ha : a.eval x = av at hv
          cases hv with
          | ptr _ _ _ L' hL' =>
            rw [hL] at hL'; cases hL'
            cases hag : ti.isAgg with
            | true =>
              have hrl := run_loadCells (P := P) hb (L.s + off) xs hc
              rw [hlen] at hrl
              simp [execOp, ho, Instr.loadAt, Instr.sureAddr, ha, loadVar, hT.isAgg_run, hag, hT.sizeOf, hrl]
            | false =>
              have h1 := hm2 hag
              match xs, h1, hc with
              | [y], _, hc =>
                have hcell : w.cell? ⟨L.b, L.s + off, none⟩ = some y := by
                  rw [cell_at hb]; simpa using hc 0 (by simp)
                simp [execOp, ho, Instr.loadAt, Instr.sureAddr, ha, loadVar, hT.isAgg_run, hag, hcell]

theorem store_ok (hE : EnvOK P E B) {t : Nat} {x y : Operand} (H : Here ops i o a) (hi : Inv E B ρ st a w) (ho : o.op = .store t x y) (self : Self) :
    (hStore t x y E self o.dst st).Holds (OpPost P E B ops b k cs i rest ρ st a w) := by
  simp only [hStore]
  cases e : ev x st with
  | none => trivial
  | some v =>
    have hv := ev_ok hi e
    cases v <;> try trivial
    rename_i g m off
    cases et : E.ti t with
    | none => trivial
    | some ti =>
      cases ey : ev y st with
      | none => trivial
      | some u =>
        simp only
        cases es : Nat.beq (lenL u.cells) ti.size with
        | false => trivial
        | true =>
          simp only [finU]
          cases ew : st.wr E g m off u.cells with
          | none => trivial
          | some s =>
            have hsz : u.cells.length = ti.size := by rw [← lenL_eq]; exact Nat.eq_of_beq_eq_true es
            have hcy := cells_ok hi.hr.one (ev_ok hi ey)
            obtain ⟨L, w', hL, hrun, h1, h2, h3⟩ := wr_ok (P := P) hi.hr ew hcy
            have hT := hE.ti t ti et
            refine fin_ran H hi ⟨undef, w', ρ, .skip, ?_, .inr ⟨rfl, rfl⟩, .tup _ _ .nil, h1, h2, h3⟩
            generalize ha : a.eval x = av at hv
            cases hv with
            | ptr _ _ _ L' hL' =>
              rw [hL] at hL'; cases hL'
              have hl := hcy.length
              have hsz' : (a.eval y).cells.size = ti.size := by simpa [hsz] using hl.symm
              simp [execOp, ho, Instr.storeAt, Instr.sureAddr, ha, storeVar, hT.sizeOf, hsz', hrun]

end
end Go.Proofs.YtcedalofcekdkaaGreatDoor.Ex
end
