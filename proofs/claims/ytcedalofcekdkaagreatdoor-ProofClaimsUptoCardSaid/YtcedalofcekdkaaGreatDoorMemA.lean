/- What a claim is made of, and where it lies. -/
import Derived.Test.YtcedalofcekdkaaGreatDoorProg
import Derived.WalkKit
import Derived.Below
import Derived.Deep.QuietTactic
import Derived.Outline
import Derived.Deep.DeepFit
import Derived.WideMake
set_option linter.unusedSimpArgs false
set_option linter.unusedVariables false
section
namespace Go.Proofs.YtcedalofcekdkaaGreatDoor
open Go.RowKit

def IntsAt (w : World) (a : Option Addr) (xs : List Int) : Prop :=
  xs = [] ∨ ∃ b o, a = some ⟨b, o, none⟩ ∧ b < w.heap.size ∧ ∀ (j : Nat) (x : Int), xs[j]? = some x → w.cell? ⟨b, o + j, none⟩ = some (.int .i64 x)

theorem IntsAt.below {w w' : World} {a : Option Addr} {xs : List Int} (h : IntsAt w a xs) (hB : Below w.heap.size w w') : IntsAt w' a xs := by
  rcases h with h | ⟨b, o, h1, h2, h3⟩
  · exact .inl h
  · exact .inr ⟨b, o, h1, Nat.lt_of_lt_of_le h2 hB.size, fun j x hj => (hB.cell (p := ⟨b, o + j, none⟩) h2).trans (h3 j x hj)⟩

theorem take_same {xs ys : List Int} {k : Nat} (hl : xs.length = ys.length) (hk : k = xs.length) (h : xs.take k = ys.take k) : xs = ys := by
  rw [hk, List.take_length, hl, List.take_length] at h
  exact h

set_option maxHeartbeats 1600000 in
set_option maxRecDepth 1000000 in
theorem ints_calls (xs ys : List Int) (a a2 : Option Addr) (c c2 : Nat) (w : World) (hx : IntsAt w a xs) (hy : IntsAt w a2 ys) (hlen : xs.length ≤ 1000000) :
    Calls Tryz.prog 18 #[.slice a xs.length c, .slice a2 ys.length c2] w fun e w' => e = .returned (.bool (decide (xs = ys))) ∧ Below w.heap.size w w' := by
  go_enter Tryz.func18, Tryz.ntmps18
  by_cases hl : xs.length = ys.length
  · rw [← hl]
    go_wp2
    go_loopw [5] (fun i wr => ∃ k : Nat, k ≤ xs.length ∧ i = .int .i64 k ∧ xs.take k = ys.take k ∧ Below w.heap.size w wr)
      (fun i _ => xs.length - (RowKit.intOf i).toNat)
    case atStart => exact ⟨0, Nat.zero_le _, rfl, by simp, Below.refl _ _⟩
    case round =>
      obtain ⟨k, hk, rfl, htk, hnx⟩ := hrel
      by_cases hkl : k < xs.length
      · obtain ⟨b, o, rfl, hb, hcx⟩ : ∃ b o, a = some ⟨b, o, none⟩ ∧ b < w.heap.size ∧ ∀ (j : Nat) (x : Int), xs[j]? = some x → w.cell? ⟨b, o + j, none⟩ = some (.int .i64 x) := by
          rcases hx with h | h
          · subst h; simp at hkl
          · exact h
        obtain ⟨b2, o2, rfl, hb2, hcy⟩ : ∃ b o, a2 = some ⟨b, o, none⟩ ∧ b < w.heap.size ∧ ∀ (j : Nat) (x : Int), ys[j]? = some x → w.cell? ⟨b, o + j, none⟩ = some (.int .i64 x) := by
          rcases hy with h | h
          · have : ys.length = 0 := by rw [h]; rfl
            omega
          · exact h
        obtain ⟨x, hxk⟩ : ∃ x, xs[k]? = some x := ⟨xs[k], by simp [hkl]⟩
        obtain ⟨y, hyk⟩ : ∃ y, ys[k]? = some y := ⟨ys[k], by simp [hl ▸ hkl]⟩
        have h1 : wr.cell? ⟨b, o + k, none⟩ = some (.int .i64 x) := (hnx.cell (p := ⟨b, o + k, none⟩) hb).trans (hcx k x hxk)
        have h2 : wr.cell? ⟨b2, o2 + k, none⟩ = some (.int .i64 y) := (hnx.cell (p := ⟨b2, o2 + k, none⟩) hb2).trans (hcy k y hyk)
        have hlt2 : k < ys.length := by omega
        by_cases hxy : x = y
        · subst hxy
          have htk' : xs.take (k + 1) = ys.take (k + 1) := by rw [List.take_add_one, List.take_add_one, hxk, hyk, htk]
          clear hcx hcy hx hy
          go_wp2_with fail
          go_region
          all_goals (try go_wp2)
          go_roundw
          case rel => exact ⟨k + 1, by omega, by go_num, htk', hnx.drew⟩
          case measure => simp [RowKit.intOf]; omega
        · have hne : xs ≠ ys := fun e => by subst e; rw [hxk] at hyk; exact hxy (Option.some.inj hyk)
          clear hcx hcy hx hy
          go_wp2_with fail
          go_region
          all_goals (try go_wp2)
          go_ret
          exact ⟨by rw [decide_eq_false hne]; rfl, hnx.drew⟩
      · have he := take_same hl (by omega) htk
        go_wp2
        go_ret
        exact ⟨by rw [decide_eq_true he]; rfl, hnx⟩
  · have hne : xs ≠ ys := fun e => hl (by rw [e])
    have hz : ¬ ((xs.length : Int) = (ys.length : Int)) := by omega
    go_wp2
    go_ret
    exact ⟨by rw [decide_eq_false hne]; rfl, Below.refl _ _⟩
end Go.Proofs.YtcedalofcekdkaaGreatDoor
end

section
namespace Go.Proofs.YtcedalofcekdkaaGreatDoor
open Go.RowKit

def IntsV (w : World) (v : Value) (xs : List Int) : Prop := ∃ a cap, v = .slice a xs.length cap ∧ (a = none → cap = 0) ∧ IntsAt w a xs

theorem IntsV.below {w w' : World} {v : Value} {xs : List Int} (h : IntsV w v xs) (hB : Below w.heap.size w w') : IntsV w' v xs := by
  obtain ⟨a, cap, e, h0, h⟩ := h
  exact ⟨a, cap, e, h0, h.below hB⟩

def ElemsAt {α : Type} (R : World → Nat → Nat → α → Prop) (size : Nat) (w : World) (a : Option Addr) (l : List α) : Prop :=
  l = [] ∨ ∃ b o, a = some ⟨b, o, none⟩ ∧ b < w.heap.size ∧ ∀ (j : Nat) (x : α), l[j]? = some x → R w b (o + j * size) x

def ElemsV {α : Type} (R : World → Nat → Nat → α → Prop) (size : Nat) (w : World) (v : Value) (l : List α) : Prop := ∃ a cap, v = .slice a l.length cap ∧ ElemsAt R size w a l

theorem ElemsAt.get {α : Type} {R : World → Nat → Nat → α → Prop} {size : Nat} {w : World} {a : Option Addr} {l : List α} (h : ElemsAt R size w a l) {k : Nat} (hk : k < l.length) :
    ∃ b o x, a = some ⟨b, o, none⟩ ∧ b < w.heap.size ∧ l[k]? = some x ∧ R w b (o + k * size) x := by
  rcases h with h | ⟨b, o, e, hb, hc⟩
  · subst h; simp at hk
  · exact ⟨b, o, l[k], e, hb, by simp [hk], hc k _ (by simp [hk])⟩

def RowR (w : World) (b i : Nat) (xs : List Int) : Prop := ∃ u, w.cell? ⟨b, i, none⟩ = some u ∧ IntsV w u xs
abbrev RowsV := ElemsV RowR 1

structure Sig where
  name : ByteArray
  inp : Bool
  size : Int
def SigR (w : World) (b i : Nat) (s : Sig) : Prop := w.cell? ⟨b, i, none⟩ = some (.string s.name) ∧ w.cell? ⟨b, i + 1, none⟩ = some (.bool s.inp) ∧ w.cell? ⟨b, i + 2, none⟩ = some (.int .i64 s.size)
abbrev SigsV := ElemsV SigR 3

structure SpotD where
  machine : Int
  memory : Int
  set : List Int
  turn : Int
  rank : Int
def SpotR (w : World) (b i : Nat) (s : SpotD) : Prop :=
  w.cell? ⟨b, i, none⟩ = some (.int .i64 s.machine) ∧ w.cell? ⟨b, i + 1, none⟩ = some (.int .i64 s.memory) ∧ (∃ u, w.cell? ⟨b, i + 2, none⟩ = some u ∧ IntsV w u s.set) ∧ w.cell? ⟨b, i + 3, none⟩ = some (.int .i64 s.turn) ∧ w.cell? ⟨b, i + 4, none⟩ = some (.int .i64 s.rank)
abbrev SpotsV := ElemsV SpotR 5

theorem RowR.below {w w' : World} {b i : Nat} {xs : List Int} (h : RowR w b i xs) (hb : b < w.heap.size) (hB : Below w.heap.size w w') : RowR w' b i xs := by
  obtain ⟨u, h1, h2⟩ := h
  exact ⟨u, (hB.cell (p := ⟨b, i, none⟩) hb).trans h1, h2.below hB⟩
theorem SigR.below {w w' : World} {b i : Nat} {x : Sig} (h : SigR w b i x) (hb : b < w.heap.size) (hB : Below w.heap.size w w') : SigR w' b i x :=
  ⟨(hB.cell (p := ⟨b, i, none⟩) hb).trans h.1, (hB.cell (p := ⟨b, i + 1, none⟩) hb).trans h.2.1, (hB.cell (p := ⟨b, i + 2, none⟩) hb).trans h.2.2⟩
theorem SpotR.below {w w' : World} {b i : Nat} {x : SpotD} (h : SpotR w b i x) (hb : b < w.heap.size) (hB : Below w.heap.size w w') : SpotR w' b i x := by
  obtain ⟨h1, h2, ⟨u, h3, h4⟩, h5, h6⟩ := h
  exact ⟨(hB.cell (p := ⟨b, i, none⟩) hb).trans h1, (hB.cell (p := ⟨b, i + 1, none⟩) hb).trans h2, ⟨u, (hB.cell (p := ⟨b, i + 2, none⟩) hb).trans h3, h4.below hB⟩, (hB.cell (p := ⟨b, i + 3, none⟩) hb).trans h5, (hB.cell (p := ⟨b, i + 4, none⟩) hb).trans h6⟩
theorem ElemsV.below {α : Type} {R : World → Nat → Nat → α → Prop} {size : Nat} (hR : ∀ {w w' : World} {b i : Nat} {x : α}, R w b i x → b < w.heap.size → Below w.heap.size w w' → R w' b i x) {w w' : World} {v : Value} {l : List α} (h : ElemsV R size w v l) (hB : Below w.heap.size w w') : ElemsV R size w' v l := by
  obtain ⟨a, cap, e, h⟩ := h
  refine ⟨a, cap, e, ?_⟩
  rcases h with h | ⟨b, o, e, hb, hc⟩
  · exact .inl h
  · exact .inr ⟨b, o, e, Nat.lt_of_lt_of_le hb hB.size, fun j x hj => hR (hc j x hj) hb hB⟩

inductive FT where
  | node (op : Int) (name : ByteArray) (val bound : Int) (args : List FT)

def FormsAt (w : World) : Nat → Nat → Nat → List FT → Prop
  | _, _, _, [] => True
  | b, o, j, .node op name val bound args :: r =>
    w.cell? ⟨b, o + j * 5, none⟩ = some (.int .i64 op) ∧ w.cell? ⟨b, o + j * 5 + 1, none⟩ = some (.string name) ∧ w.cell? ⟨b, o + j * 5 + 2, none⟩ = some (.int .i64 val) ∧ w.cell? ⟨b, o + j * 5 + 3, none⟩ = some (.int .i64 bound) ∧
    (∃ a cap, w.cell? ⟨b, o + j * 5 + 4, none⟩ = some (.slice a args.length cap) ∧ (args = [] ∨ ∃ b' o', a = some ⟨b', o', none⟩ ∧ b' < w.heap.size ∧ FormsAt w b' o' 0 args)) ∧
    FormsAt w b o (j + 1) r

def FormsV (w : World) (v : Value) (l : List FT) : Prop := ∃ a cap, v = .slice a l.length cap ∧ (l = [] ∨ ∃ b o, a = some ⟨b, o, none⟩ ∧ b < w.heap.size ∧ FormsAt w b o 0 l)

def FormV (w : World) (v : Value) : FT → Prop
  | .node op name val bound args => ∃ u, v = .agg #[.int .i64 op, .string name, .int .i64 val, .int .i64 bound, u] ∧ FormsV w u args

theorem FormsAt.below {w w' : World} : ∀ {l : List FT} {b o j : Nat}, FormsAt w b o j l → b < w.heap.size → Below w.heap.size w w' → FormsAt w' b o j l
  | [], _, _, _, _, _, _ => by unfold FormsAt; trivial
  | .node op name val bound args :: r, b, o, j, h, hb, hB => by
    unfold FormsAt at h ⊢
    obtain ⟨h0, h1, h2, h3, ⟨a, cap, h4, h5⟩, h6⟩ := h
    refine ⟨(hB.cell (p := ⟨b, _, none⟩) hb).trans h0, (hB.cell (p := ⟨b, _, none⟩) hb).trans h1, (hB.cell (p := ⟨b, _, none⟩) hb).trans h2, (hB.cell (p := ⟨b, _, none⟩) hb).trans h3, ⟨a, cap, (hB.cell (p := ⟨b, _, none⟩) hb).trans h4, ?_⟩, FormsAt.below h6 hb hB⟩
    rcases h5 with h5 | ⟨b', o', e, hb', h5⟩
    · exact .inl h5
    · exact .inr ⟨b', o', e, Nat.lt_of_lt_of_le hb' hB.size, FormsAt.below h5 hb' hB⟩

theorem FormsV.below {w w' : World} {v : Value} {l : List FT} (h : FormsV w v l) (hB : Below w.heap.size w w') : FormsV w' v l := by
  obtain ⟨a, cap, e, h⟩ := h
  refine ⟨a, cap, e, ?_⟩
  rcases h with h | ⟨b, o, e, hb, h⟩
  · exact .inl h
  · exact .inr ⟨b, o, e, Nat.lt_of_lt_of_le hb hB.size, h.below hb hB⟩

theorem FormsAt.get {w : World} : ∀ {l : List FT} {b o i : Nat}, FormsAt w b o i l → ∀ {j : Nat} {op : Int} {name : ByteArray} {val bound : Int} {args : List FT}, l[j]? = some (.node op name val bound args) →
    w.cell? ⟨b, o + (i + j) * 5, none⟩ = some (.int .i64 op) ∧ w.cell? ⟨b, o + (i + j) * 5 + 1, none⟩ = some (.string name) ∧ w.cell? ⟨b, o + (i + j) * 5 + 2, none⟩ = some (.int .i64 val) ∧ w.cell? ⟨b, o + (i + j) * 5 + 3, none⟩ = some (.int .i64 bound) ∧
    ∃ u, w.cell? ⟨b, o + (i + j) * 5 + 4, none⟩ = some u ∧ FormsV w u args
  | [], _, _, _, _, j, _, _, _, _, _, hj => by simp at hj
  | .node op name val bound args :: r, b, o, i, h, j, op', name', val', bound', args', hj => by
    unfold FormsAt at h
    obtain ⟨h0, h1, h2, h3, ⟨a, cap, h4, h5⟩, h6⟩ := h
    cases j with
    | zero =>
      simp only [List.getElem?_cons_zero, Option.some.injEq, FT.node.injEq] at hj
      obtain ⟨rfl, rfl, rfl, rfl, rfl⟩ := hj
      exact ⟨h0, h1, h2, h3, _, h4, a, cap, rfl, h5⟩
    | succ j =>
      have := h6.get (j := j) (by simpa using hj)
      rw [show i + 1 + j = i + (j + 1) by omega] at this
      exact this

def sz : List FT → Nat
  | [] => 0
  | .node _ _ _ _ args :: r => 1 + sz args + sz r

theorem sz_get : ∀ {l : List FT} {j : Nat} {f : FT}, l[j]? = some f → sz [f] ≤ sz l
  | [], j, f, h => by simp at h
  | .node op name val bound args :: r, j, f, h => by
    cases j with
    | zero => simp at h; subst h; simp [sz]
    | succ j =>
      have := sz_get (l := r) (j := j) (by simpa using h)
      simp only [sz]; omega

theorem sz_node (op : Int) (name : ByteArray) (val bound : Int) (args : List FT) : sz [.node op name val bound args] = 1 + sz args := by simp [sz]

theorem length_sz : ∀ l : List FT, l.length ≤ sz l
  | [] => Nat.zero_le _
  | .node op name val bound args :: r => by have := length_sz r; simp only [sz, List.length_cons]; omega

theorem FormV.below {w w' : World} {v : Value} {f : FT} (h : FormV w v f) (hB : Below w.heap.size w w') : FormV w' v f := by
  cases f with
  | node op name val bound args =>
    obtain ⟨u, e, h⟩ := h
    exact ⟨u, e, h.below hB⟩

theorem FormsV.get {w : World} {a : Option Addr} {l : List FT} (h : l = [] ∨ ∃ b o, a = some ⟨b, o, none⟩ ∧ b < w.heap.size ∧ FormsAt w b o 0 l) {k : Nat} (hk : k < l.length) :
    ∃ b o op name val bound args u, a = some ⟨b, o, none⟩ ∧ b < w.heap.size ∧ l[k]? = some (.node op name val bound args) ∧ FormsV w u args ∧
      w.cell? ⟨b, o + k * 5, none⟩ = some (.int .i64 op) ∧ w.cell? ⟨b, o + k * 5 + 1, none⟩ = some (.string name) ∧ w.cell? ⟨b, o + k * 5 + 2, none⟩ = some (.int .i64 val) ∧ w.cell? ⟨b, o + k * 5 + 3, none⟩ = some (.int .i64 bound) ∧ w.cell? ⟨b, o + k * 5 + 4, none⟩ = some u := by
  rcases h with h | ⟨b, o, e, hb, hc⟩
  · subst h; simp at hk
  · obtain ⟨f, hf⟩ : ∃ f, l[k]? = some f := ⟨l[k], by simp [hk]⟩
    cases f with
    | node op name val bound args =>
      have := hc.get hf
      rw [Nat.zero_add] at this
      obtain ⟨h0, h1, h2, h3, u, h4, h5⟩ := this
      exact ⟨b, o, op, name, val, bound, args, u, e, hb, hf, h5, h0, h1, h2, h3, h4⟩
end Go.Proofs.YtcedalofcekdkaaGreatDoor
end

section
namespace Go.Proofs.YtcedalofcekdkaaGreatDoor
open Go.RowKit

def SomeBool (w : World) (e : Ending) (w' : World) : Prop := (∃ b : Bool, e = .returned (.bool b)) ∧ Below w.heap.size w w'

set_option maxHeartbeats 1600000 in
set_option maxRecDepth 1000000 in
theorem small_sigs {w : World} {v : Value} {l : List Sig} (h : SigsV w v l) : Calls Tryz.prog 58 #[v] w fun e w' => SomeBool w e w' := by
  obtain ⟨a, cap, rfl, ha⟩ := h
  go_enter Tryz.func58, Tryz.ntmps58
  by_cases h1 : 10 < l.length
  · go_wp2
    go_ret
    exact ⟨⟨_, rfl⟩, Below.refl _ _⟩
  go_wp2
  go_loopw [3] (fun i wr => ∃ k : Nat, k ≤ l.length ∧ i = .int .i64 k ∧ Below w.heap.size w wr) (fun i _ => l.length - (RowKit.intOf i).toNat)
  case atStart => exact ⟨0, Nat.zero_le _, rfl, Below.refl _ _⟩
  case round =>
    obtain ⟨k, hk, rfl, hnx⟩ := hrel
    by_cases hkl : k < l.length
    · obtain ⟨b, o, x, rfl, hb, hx, hc⟩ := ha.get hkl
      have hc := hc.below hb hnx
      obtain ⟨hn, -, -⟩ := hc
      clear ha
      go_wp2
      · go_ret
        exact ⟨⟨_, rfl⟩, hnx⟩
      · go_roundw
        case rel => exact ⟨k + 1, by omega, by go_num, hnx⟩
        case measure => simp [RowKit.intOf]; omega
    · go_wp2
      go_ret
      exact ⟨⟨_, rfl⟩, hnx⟩
set_option maxHeartbeats 1600000 in
set_option maxRecDepth 1000000 in
theorem rows_bool {w : World} {v : Value} {l : List (List Int)} (n : Int) (hn : n ≤ 1000) (h : RowsV w v l) : Calls Tryz.prog 61 #[v, .int .i64 n] w fun e w' => SomeBool w e w' := by
  obtain ⟨a, cap, rfl, ha⟩ := h
  go_enter Tryz.func61, Tryz.ntmps61
  by_cases h1 : n < (l.length : Int)
  · go_wp2
    go_ret
    exact ⟨⟨_, rfl⟩, Below.refl _ _⟩
  go_wp2
  go_loopw [5] (fun i wr => ∃ k : Nat, k ≤ l.length ∧ i = .int .i64 k ∧ Below w.heap.size w wr) (fun i _ => l.length - (RowKit.intOf i).toNat)
  case atStart => exact ⟨0, Nat.zero_le _, rfl, Below.refl _ _⟩
  case round =>
    obtain ⟨k, hk, rfl, hnx⟩ := hrel
    by_cases hkl : k < l.length
    · obtain ⟨b, o, x, rfl, hb, hx, hc⟩ := ha.get hkl
      rw [Nat.mul_one] at hc
      obtain ⟨u, hu, a2, c2, rfl, -⟩ := hc.below hb hnx
      clear ha hc
      go_wp2
      · go_ret
        exact ⟨⟨_, rfl⟩, hnx⟩
      · go_roundw
        case rel => exact ⟨k + 1, by omega, by go_num, hnx⟩
        case measure => simp [RowKit.intOf]; omega
    · go_wp2
      go_ret
      exact ⟨⟨_, rfl⟩, hnx⟩

set_option maxHeartbeats 1600000 in
set_option maxRecDepth 1000000 in
theorem fewRows_bool {w : World} {v : Value} {l : List (List Int)} (n : Int) (hn : n ≤ 1000) (h : RowsV w v l) : Calls Tryz.prog 132 #[v, .int .i64 n] w fun e w' => SomeBool w e w' := by
  obtain ⟨a, cap, rfl, ha⟩ := h
  go_enter Tryz.func132, Tryz.ntmps132
  by_cases h1 : n < (l.length : Int)
  · go_wp2
    go_ret
    exact ⟨⟨_, rfl⟩, Below.refl _ _⟩
  go_wp2
  go_loopw [5] (fun i wr => ∃ k : Nat, k ≤ l.length ∧ i = .int .i64 k ∧ Below w.heap.size w wr) (fun i _ => l.length - (RowKit.intOf i).toNat)
  case atStart => exact ⟨0, Nat.zero_le _, rfl, Below.refl _ _⟩
  case round =>
    obtain ⟨k, hk, rfl, hnx⟩ := hrel
    by_cases hkl : k < l.length
    · obtain ⟨b, o, x, rfl, hb, hx, hc⟩ := ha.get hkl
      rw [Nat.mul_one] at hc
      obtain ⟨u, hu, a2, c2, rfl, -⟩ := hc.below hb hnx
      clear ha hc
      go_wp2
      · go_ret
        exact ⟨⟨_, rfl⟩, hnx⟩
      · go_roundw
        case rel => exact ⟨k + 1, by omega, by go_num, hnx⟩
        case measure => simp [RowKit.intOf]; omega
    · go_wp2
      go_ret
      exact ⟨⟨_, rfl⟩, hnx⟩

end Go.Proofs.YtcedalofcekdkaaGreatDoor
end

section
namespace Go.Proofs.YtcedalofcekdkaaGreatDoor
open Go.RowKit

def SomeInt (w : World) (e : Ending) (w' : World) : Prop := (∃ n : Int, e = .returned (.int .i64 n)) ∧ Below w.heap.size w w'

set_option maxHeartbeats 1600000 in
set_option maxRecDepth 1000000 in
theorem capped_any : ∀ (s : Nat) (f : FT) (v : Value) (n : Int) (w : World), sz [f] ≤ s → sz [f] ≤ 10000000 → FormV w v f → Calls Tryz.prog 76 #[v, .int .i64 n] w fun e w' => SomeInt w e w'
  | 0, .node op name val bound args, v, n, w, hs, _, h => by simp [sz] at hs
  | s + 1, .node op name val bound args, v, n, w, hs, hbig, h => by
    obtain ⟨u, rfl, a, cap, rfl, ha⟩ := h
    rw [sz_node] at hs hbig
    have hlen := length_sz args
    have hB0 : ∀ O, Below w.heap.size w (w.alloc O) := fun O => (Below.refl _ _).alloc (Nat.le_refl _) _
    go_enter Tryz.func76, Tryz.ntmps76
    go_wp2
    generalize hw1 : w.alloc (Obj.cells #[Value.int .i64 op, Value.string name, Value.int .i64 val, Value.int .i64 bound, Value.slice a args.length cap] 48) = w1
    have hB1 : Below w.heap.size w w1 := by rw [← hw1]; exact hB0 _
    have hs1 : w.heap.size < w1.heap.size := by rw [← hw1]; simp
    have hc4 : w1.cell? ⟨w.heap.size, 4, none⟩ = some (.slice a args.length cap) := by rw [← hw1, World.cell?_alloc_new]; rfl
    clear hw1 hB0
    go_loopw [5, 6] (fun m i wr => ∃ (k : Nat) (x : Int), k ≤ args.length ∧ i = .int .i64 k ∧ m = .int .i64 x ∧ Below w1.heap.size w1 wr) (fun _ i _ => args.length - (RowKit.intOf i).toNat)
    case atStart => exact ⟨0, 1, Nat.zero_le _, rfl, rfl, Below.refl _ _⟩
    case round =>
      obtain ⟨k, x, hk, rfl, rfl, hnx⟩ := hrel
      have hc : wr.cell? ⟨w.heap.size, 4, none⟩ = some (.slice a args.length cap) := (hnx.cell (p := ⟨w.heap.size, 4, none⟩) hs1).trans hc4
      have hBr : Below w.heap.size w wr := hB1.trans (hnx.mono hB1.size)
      by_cases hkl : k < args.length ∧ x ≤ n
      · obtain ⟨hkl, hxn⟩ := hkl
        obtain ⟨b, o, op', name', val', bound', args', u', rfl, hb, hj, hu, d0, d1, d2, d3, d4⟩ := FormsV.get ha hkl
        have e0 := (hBr.cell (p := ⟨b, o + k * 5, none⟩) hb).trans d0
        have e1 := (hBr.cell (p := ⟨b, o + k * 5 + 1, none⟩) hb).trans d1
        have e2 := (hBr.cell (p := ⟨b, o + k * 5 + 2, none⟩) hb).trans d2
        have e3 := (hBr.cell (p := ⟨b, o + k * 5 + 3, none⟩) hb).trans d3
        have e4 := (hBr.cell (p := ⟨b, o + k * 5 + 4, none⟩) hb).trans d4
        have hsz := sz_get hj
        have hrec := fun m => capped_any s (.node op' name' val' bound' args') _ m wr (by omega) (by omega) ⟨u', rfl, hu.below hBr⟩
        clear d0 d1 d2 d3 d4 ha hj
        go_wp2_with fail
        refine (hrec _).mono ?_
        rintro e w2 ⟨⟨m, rfl⟩, hB2⟩
        go_wp2
        go_roundw
        case rel => exact ⟨k + 1, _, by omega, by go_num, rfl, hnx.trans (hB2.mono hnx.size)⟩
        case measure => simp [RowKit.intOf]; omega
      · by_cases hkl2 : k < args.length
        · have hxn : ¬ x ≤ n := fun h => hkl ⟨hkl2, h⟩
          go_wp2
          go_ret
          exact ⟨⟨_, rfl⟩, hBr⟩
        · go_wp2
          go_ret
          exact ⟨⟨_, rfl⟩, hBr⟩

set_option maxHeartbeats 1600000 in
set_option maxRecDepth 1000000 in
theorem small_any (f : FT) {v : Value} (n : Int) {w : World} (hbig : sz [f] ≤ 10000000) (h : FormV w v f) : Calls Tryz.prog 29 #[v, .int .i64 n] w fun e w' => SomeBool w e w' := by
  have hB0 : ∀ O, Below w.heap.size w (w.alloc O) := fun O => (Below.refl _ _).alloc (Nat.le_refl _) _
  have hrec := fun O => capped_any _ f v n (w.alloc O) (Nat.le_refl _) hbig (h.below (hB0 O))
  cases f with
  | node op name val bound args =>
    obtain ⟨u, rfl, a, cap, rfl, ha⟩ := h
    go_enter Tryz.func29, Tryz.ntmps29
    go_wp2_with fail
    go_fit (hrec _)
    rintro e w2 ⟨⟨m, rfl⟩, hB2⟩
    go_wp2
    go_ret
    exact ⟨⟨_, rfl⟩, (hB0 _).trans (hB2.mono (hB0 _).size)⟩

set_option maxHeartbeats 1600000 in
set_option maxRecDepth 1000000 in
theorem smallList_any {l : List FT} {v : Value} (n : Int) {w : World} (hbig : sz l ≤ 10000000) (h : FormsV w v l) : Calls Tryz.prog 62 #[v, .int .i64 n] w fun e w' => SomeBool w e w' := by
  obtain ⟨a, cap, rfl, ha⟩ := h
  go_enter Tryz.func62, Tryz.ntmps62
  by_cases h1 : 12 < l.length
  · go_wp2
    go_ret
    exact ⟨⟨_, rfl⟩, Below.refl _ _⟩
  go_wp2
  go_loopw [5] (fun i wr => ∃ k : Nat, k ≤ l.length ∧ i = .int .i64 k ∧ Below w.heap.size w wr) (fun i _ => l.length - (RowKit.intOf i).toNat)
  case atStart => exact ⟨0, Nat.zero_le _, rfl, Below.refl _ _⟩
  case round =>
    obtain ⟨k, hk, rfl, hnx⟩ := hrel
    by_cases hkl : k < l.length
    · obtain ⟨b, o, op', name', val', bound', args', u', rfl, hb, hj, hu, d0, d1, d2, d3, d4⟩ := FormsV.get ha hkl
      have e0 := (hnx.cell (p := ⟨b, o + k * 5, none⟩) hb).trans d0
      have e1 := (hnx.cell (p := ⟨b, o + k * 5 + 1, none⟩) hb).trans d1
      have e2 := (hnx.cell (p := ⟨b, o + k * 5 + 2, none⟩) hb).trans d2
      have e3 := (hnx.cell (p := ⟨b, o + k * 5 + 3, none⟩) hb).trans d3
      have e4 := (hnx.cell (p := ⟨b, o + k * 5 + 4, none⟩) hb).trans d4
      have hsz := sz_get hj
      have hrec := small_any (.node op' name' val' bound' args') n (w := wr) (by omega) ⟨u', rfl, hu.below hnx⟩
      clear d0 d1 d2 d3 d4 ha hj
      go_wp2_with fail
      refine hrec.mono ?_
      rintro e w2 ⟨⟨m, rfl⟩, hB2⟩
      cases m
      · go_wp2
        go_ret
        exact ⟨⟨_, rfl⟩, hnx.trans (hB2.mono hnx.size)⟩
      · go_wp2
        go_roundw
        case rel => exact ⟨k + 1, by omega, by go_num, hnx.trans (hB2.mono hnx.size)⟩
        case measure => simp [RowKit.intOf]; omega
    · go_wp2
      go_ret
      exact ⟨⟨_, rfl⟩, hnx⟩
end Go.Proofs.YtcedalofcekdkaaGreatDoor
end

section
namespace Go.Proofs.YtcedalofcekdkaaGreatDoor
open Go.RowKit

theorem und186 : Tryz.prog.underlying 186 = some (.map 4 3) := Tryz.underlying186

theorem push_set {α : Type} (a : Array α) (x y : α) : (a.push x).setIfInBounds a.size y = a.push y := by
  apply Array.ext_getElem?
  intro i
  rw [Array.getElem?_setIfInBounds, Array.getElem?_push, Array.getElem?_push]
  by_cases h : a.size = i
  · subst h; simp
  · rw [if_neg h, if_neg (fun e => h e.symm), if_neg (fun e => h e.symm)]

theorem alloc_set (w : World) (x y : Obj) : ({ w.alloc x with heap := (w.alloc x).heap.setIfInBounds w.heap.size y } : World) = w.alloc y := by
  have h := push_set w.heap x y
  unfold World.alloc
  rw [h]

theorem map_laid (w : World) : (Instr.mapUpdate 186 (.map (some w.heap.size)) (.bool true) (.int .i64 1)).run Tryz.prog (w.alloc (.map #[] 0)) =
    .ok () (w.alloc (.map #[{ key := .bool true, val := .int .i64 1, born := 0 }] 1)) := by
  have hb : (w.alloc (.map #[] 0)).heap[w.heap.size]? = some (.map #[] 0) := heap_alloc_new w _
  have hf : Instr.findNow .bool (.bool true) ([] : List MapEntry) 0 = some none := rfl
  have hc : (Instr.checkKey false 10000 4 (.bool true)).run Tryz.prog (w.alloc (.map #[] 0)) = .ok () (w.alloc (.map #[] 0)) := MapKept.run_checkKey (k := .bool true) Tryz.underlying4 (by simp [MapKept.IsKey]) false 9999
  have hs : (setObj w.heap.size (.map #[{ key := .bool true, val := .int .i64 1, born := 0 }] 1)).run Tryz.prog (w.alloc (.map #[] 0)) = .ok () (w.alloc (.map #[{ key := .bool true, val := .int .i64 1, born := 0 }] 1)) := by
    rw [MapKept.run_setObj_map _ hb, alloc_set]
  generalize w.alloc (.map #[] 0) = w1 at *
  simp [Instr.mapUpdate, run_underlying und186, MapKept.run_getObj_map hb, hc, MapKept.run_findKey Tryz.underlying4 hf, Result.andThen]
  exact hs

theorem map_found (w : World) (b : Bool) : (Instr.lookup 186 (.map (some w.heap.size)) (.bool b) false).run Tryz.prog (w.alloc (.map #[{ key := .bool true, val := .int .i64 1, born := 0 }] 1)) =
    .ok (.int .i64 (if b then 1 else 0)) (w.alloc (.map #[{ key := .bool true, val := .int .i64 1, born := 0 }] 1)) := by
  have hb : (w.alloc (.map #[{ key := .bool true, val := .int .i64 1, born := 0 }] 1)).heap[w.heap.size]? = some (.map #[{ key := .bool true, val := .int .i64 1, born := 0 }] 1) := heap_alloc_new w _
  have hc : ∀ W, (Instr.checkKey false 10000 4 (.bool b)).run Tryz.prog W = .ok () W := fun W => MapKept.run_checkKey (k := .bool b) Tryz.underlying4 (by simp [MapKept.IsKey]) false 9999
  have hz : ∀ W, (zeroValue 3).run Tryz.prog W = .ok (.int .i64 0) W := fun W => by simp [Tryz.zeroValue3]
  cases b
  · have hf : Instr.findNow .bool (.bool false) [{ key := .bool true, val := .int .i64 1, born := 0 }] 0 = some none := rfl
    simp [Instr.lookup, run_underlying und186, MapKept.run_getObj_map hb, hc, hz, MapKept.run_findKey Tryz.underlying4 hf, Result.andThen]
  · have hf : Instr.findNow .bool (.bool true) [{ key := .bool true, val := .int .i64 1, born := 0 }] 0 = some (some (0, .int .i64 1)) := rfl
    simp [Instr.lookup, run_underlying und186, MapKept.run_getObj_map hb, hc, hz, MapKept.run_findKey Tryz.underlying4 hf, Result.andThen]
end Go.Proofs.YtcedalofcekdkaaGreatDoor
end
