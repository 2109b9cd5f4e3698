/- A claim out of an input. -/
import Derived.Test.YtcedalofcekdkaaGreatDoorPlainA
import Derived.Test.YtcedalofcekdkaaGreatDoorRows
import Derived.ChangeArms
import Derived.DataReads
import Derived.Deep.MidRow
import Derived.Deep.Slices
set_option linter.unusedSimpArgs false
set_option linter.unusedVariables false
section
namespace Go.Proofs.YtcedalofcekdkaaGreatDoor
open Go.RowKit
open Go.Proofs.YtcedalofcekdkaaGreatDoor.Rows (uptoBulk uptoBulkAll)
set_option maxRecDepth 100000
set_option linter.unusedVariables false

section
variable {H : Type} {enc : TypeId × Value → H} {w : World} {sp : Nat → Bool} {held : Bool}

theorem bulk_len (l : List (DataW H)) : l.length ≤ uptoBulkAll l := by
  induction l with
  | nil => simp [uptoBulkAll]
  | cons x r ih =>
    have : 1 ≤ uptoBulk x := by
      cases x with
      | lit l => cases l <;> simp [uptoBulk]
      | nil => simp [uptoBulk]
      | ptr d => simp [uptoBulk]
      | slice elems spare => simp [uptoBulk]
      | agg parts => simp [uptoBulk]
      | iface t d => simp [uptoBulk]
      | map entries => simp [uptoBulk]
      | held h => simp [uptoBulk]
    simp only [uptoBulkAll, List.length_cons]; omega

theorem list_of {α : Type} {p : Nat → α → Prop} : ∀ {n : Nat}, (∀ i, i < n → ∃ x, p i x) → ∃ l : List α, l.length = n ∧ ∀ (i : Nat) (x : α), l[i]? = some x → p i x
  | 0, _ => ⟨[], rfl, fun i x h => by simp at h⟩
  | n + 1, h => by
    obtain ⟨l, hl, hp⟩ := list_of (n := n) (fun i hi => h i (by omega))
    obtain ⟨x, hx⟩ := h n (by omega)
    refine ⟨l ++ [x], by simp [hl], fun i y hy => ?_⟩
    by_cases hi : i < n
    · rw [List.getElem?_append_left (by omega)] at hy
      exact hp i y hy
    · rw [List.getElem?_append_right (by omega), hl] at hy
      have : i - n = 0 := by
        have := (List.getElem?_eq_some_iff.1 hy).1
        simp at this; omega
      rw [this] at hy
      simp at hy
      subst hy
      rw [show i = n by omega]; exact hx

theorem sum_le {α : Type} {g : α → Nat} : ∀ {l : List α} {ds : List (DataW H)}, l.length = ds.length → (∀ (i : Nat) x d, l[i]? = some x → ds[i]? = some d → g x ≤ uptoBulk d) → (l.map g).sum ≤ uptoBulkAll ds
  | [], ds, _, _ => by simp
  | x :: l, [], h, _ => by simp at h
  | x :: l, d :: ds, h, hg => by
    have := hg 0 x d (by simp) (by simp)
    have := sum_le (l := l) (ds := ds) (by simpa using h) (fun i y e hy he => hg (i + 1) y e (by simpa using hy) (by simpa using he))
    simp only [List.map_cons, List.sum_cons, uptoBulkAll]; omega

theorem sum_one {α : Type} : ∀ l : List α, (l.map fun _ => 1).sum = l.length
  | [] => rfl
  | _ :: r => by rw [List.map_cons, List.sum_cons, sum_one r, List.length_cons]; omega

theorem open_elems {α : Type} {R : World → Nat → Nat → α → Prop} {g : α → Nat} {t e : TypeId} {size : Nat} (ht : Tryz.prog.underlying t = some (.slice e)) (hsz : Tryz.prog.cellsOf e = size) (hpos : 0 < size)
    {fuel : Nat} {cs : List Value} {x : DataW H × List MemPlace} (h : DataW.trod enc Tryz.prog w 0 sp held fuel t cs = some x)
    (hR : ∀ n, n < fuel → ∀ cs' y (b o : Nat), DataW.trod enc Tryz.prog w 0 sp held n e cs' = some y → (∀ i, i < size → w.cell? ⟨b, o + i, none⟩ = cs'[i]?) → ∃ a : α, R w b o a ∧ g a ≤ uptoBulk y.1) :
    ∃ (ad : Option Addr) (l : List α) (cap : Nat), cs = [.slice ad l.length cap] ∧ (ad = none → cap = 0) ∧ ElemsAt R size w ad l ∧ (l.map g).sum + 1 ≤ uptoBulk x.1 := by
  rcases DataW.trod_slice ht h with ⟨rfl, rfl⟩ | ⟨a, len, cap, elems, rest, n, rfl, rfl, rfl, hb, hl, hm, hlen, hel, -, -⟩
  · exact ⟨none, [], 0, rfl, fun _ => rfl, .inl rfl, by simp [uptoBulk]⟩
  rw [hsz] at hel
  have hone : ∀ i, i < len → ∃ cs' y, elems[i]? = some y ∧ w.cells? 0 (a.add (i * size)) size = some cs' ∧ DataW.trod enc Tryz.prog w 0 sp held n e cs' = some y := fun i hi => by
    have h1 := hel i hi
    rw [List.getElem?_eq_getElem (by omega)] at h1
    obtain ⟨cs', h2, h3⟩ := Option.bind_eq_some_iff.1 h1
    exact ⟨cs', _, List.getElem?_eq_getElem (by omega), h2, h3⟩
  by_cases h0 : len = 0
  · subst h0
    exact ⟨some a, [], cap, rfl, (fun e => by cases e), .inl rfl, by simp only [List.map_nil, List.sum_nil, uptoBulk]; omega⟩
  have hsp : a.spot = none ∧ a.block < w.heap.size := by
    obtain ⟨cs', y, -, h2, -⟩ := hone 0 (by omega)
    obtain ⟨-, hl2, hc⟩ := World.cells?_some h2
    have h3 := hc 0 hpos
    rw [List.getElem?_eq_getElem (by omega)] at h3
    have hs := World.cell?_spot h3
    have hbl := World.block_lt_of_cell? w _ h3
    obtain ⟨b, o, s⟩ := a
    simp [Addr.add] at hs hbl
    exact ⟨hs, hbl⟩
  obtain ⟨b, o, s⟩ := a
  obtain ⟨rfl, hbl⟩ := hsp
  obtain ⟨l, hll, hp⟩ := list_of (p := fun i (x : α) => R w b (o + i * size) x ∧ ∀ d, (elems.map (·.1))[i]? = some d → g x ≤ uptoBulk d) (n := len) (fun i hi => by
    obtain ⟨cs', y, h1, h2, h3⟩ := hone i hi
    obtain ⟨-, hl2, hc⟩ := World.cells?_some h2
    rw [Addr.add_mid] at hc
    obtain ⟨x, hx, hg⟩ := hR n (by omega) cs' y b (o + i * size) h3 (fun j hj => by rw [← hc j hj, Addr.add_mid])
    refine ⟨x, hx, fun d hd => ?_⟩
    rw [List.getElem?_map, h1] at hd
    simp at hd
    subst hd; exact hg)
  refine ⟨_, l, cap, by rw [hll], (fun e => by cases e), .inr ⟨b, o, rfl, hbl, fun j x hj => (hp j x hj).1⟩, ?_⟩
  have := sum_le (H := H) (g := g) (l := l) (ds := elems.map (·.1)) (by simp [hll, hlen]) (fun i x d h1 h2 => (hp i x h1).2 d h2)
  simp only [uptoBulk]; omega

theorem cells3 : Tryz.prog.cellsOf 3 = 1 := by kernel_rfl
theorem cells25 : Tryz.prog.cellsOf 25 = 1 := by kernel_rfl
theorem cells37 : Tryz.prog.cellsOf 37 = 1 := by kernel_rfl
theorem cells45 : Tryz.prog.cellsOf 45 = 1 := by kernel_rfl
theorem cells46 : Tryz.prog.cellsOf 46 = 1 := by kernel_rfl
theorem cells53 : Tryz.prog.cellsOf 53 = 1 := by kernel_rfl
theorem cells9 : Tryz.prog.cellsOf 9 = 1 := by kernel_rfl
theorem cells4 : Tryz.prog.cellsOf 4 = 1 := by kernel_rfl
theorem cells48 : Tryz.prog.cellsOf 48 = 5 := by kernel_rfl
theorem cells50 : Tryz.prog.cellsOf 50 = 5 := by kernel_rfl
theorem cells52 : Tryz.prog.cellsOf 52 = 5 := by kernel_rfl
theorem cells39 : Tryz.prog.cellsOf 39 = 3 := by kernel_rfl
theorem cells55 : Tryz.prog.cellsOf 55 = 24 := by kernel_rfl
theorem cells73 : Tryz.prog.cellsOf 73 = 3 := by kernel_rfl
theorem cells114 : Tryz.prog.cellsOf 114 = 5 := by kernel_rfl

theorem open25 {fuel : Nat} {cs : List Value} {x : DataW H × List MemPlace} (h : DataW.trod enc Tryz.prog w 0 sp held fuel 25 cs = some x) : ∃ v xs, cs = [v] ∧ IntsV w v xs ∧ xs.length + 1 ≤ uptoBulk x.1 := by
  obtain ⟨ad, l, cap, rfl, hc, hA, hs⟩ := open_elems (R := fun w b i (x : Int) => w.cell? ⟨b, i, none⟩ = some (.int .i64 x)) (g := fun _ => 1) Tryz.underlying25 cells3 (by decide) h (fun n _ cs' y b o hy hcl => by
    obtain ⟨k, rfl, rfl, -⟩ := DataW.trod_int Tryz.underlying3 hy
    exact ⟨k, by simpa using hcl 0 (by decide), by simp [uptoBulk]⟩)
  refine ⟨_, l, rfl, ⟨ad, cap, rfl, hc, ?_⟩, by rw [sum_one] at hs; exact hs⟩
  rcases hA with h | ⟨b, o, e, hb, hx⟩
  · exact .inl h
  · exact .inr ⟨b, o, e, hb, fun j x hj => by simpa using hx j x hj⟩

theorem open37 {fuel : Nat} {cs : List Value} {x : DataW H × List MemPlace} (h : DataW.trod enc Tryz.prog w 0 sp held fuel 37 cs = some x) : ∃ v l, cs = [v] ∧ RowsV w v l ∧ (l.map fun r => r.length + 1).sum + 1 ≤ uptoBulk x.1 := by
  obtain ⟨ad, l, cap, rfl, hc, hA, hs⟩ := open_elems (R := RowR) (g := fun r => r.length + 1) Tryz.underlying37 cells25 (by decide) h (fun n _ cs' y b o hy hcl => by
    obtain ⟨v, xs, rfl, hv, hl⟩ := open25 hy
    exact ⟨xs, ⟨v, by simpa using hcl 0 (by decide), hv⟩, hl⟩)
  exact ⟨_, l, rfl, ⟨ad, cap, rfl, hA⟩, hs⟩

theorem open73 {fuel : Nat} {cs : List Value} {x : DataW H × List MemPlace} (h : DataW.trod enc Tryz.prog w 0 sp held fuel 73 cs = some x) : ∃ s : Sig, cs = [.string s.name, .bool s.inp, .int .i64 s.size] ∧ s.name.size + 4 ≤ uptoBulk x.1 := by
  obtain ⟨xs, n, _, rfl, hl, hlen, hf⟩ := DataW.trod_struct Tryz.underlying73 h
  rw [cells73] at hl
  match cs, hl, xs, hlen with
  | [c0, c1, c2], _, [y0, y1, y2], _ =>
    have h0 := hf 0 _ rfl
    have h1 := hf 1 _ rfl
    have h2 := hf 2 _ rfl
    simp [cells9, cells4, cells3] at h0 h1 h2
    obtain ⟨s, e0, rfl, -⟩ := DataW.trod_string Tryz.underlying9 h0
    obtain ⟨b, e1, rfl⟩ := DataW.trod_bool Tryz.underlying4 h1
    obtain ⟨k, e2, rfl, -⟩ := DataW.trod_int Tryz.underlying3 h2
    simp at e0 e1 e2
    subst e0 e1 e2
    refine ⟨⟨s, b, k⟩, rfl, ?_⟩
    simp [uptoBulk, uptoBulkAll]

theorem open45 {fuel : Nat} {cs : List Value} {x : DataW H × List MemPlace} (h : DataW.trod enc Tryz.prog w 0 sp held fuel 45 cs = some x) : ∃ v l, cs = [v] ∧ SigsV w v l ∧ (l.map fun s => s.name.size + 4).sum + 1 ≤ uptoBulk x.1 := by
  obtain ⟨ad, l, cap, rfl, hc, hA, hs⟩ := open_elems (R := SigR) (g := fun s => s.name.size + 4) Tryz.underlying45 cells73 (by decide) h (fun n _ cs' y b o hy hcl => by
    obtain ⟨s, rfl, hl⟩ := open73 hy
    exact ⟨s, ⟨by simpa using hcl 0 (by decide), by simpa using hcl 1 (by decide), by simpa using hcl 2 (by decide)⟩, hl⟩)
  exact ⟨_, l, rfl, ⟨ad, cap, rfl, hA⟩, hs⟩

theorem open53 {fuel : Nat} {cs : List Value} {x : DataW H × List MemPlace} (h : DataW.trod enc Tryz.prog w 0 sp held fuel 53 cs = some x) : ∃ v l, cs = [v] ∧ SpotsV w v l ∧ (l.map fun s => s.set.length + 6).sum + 1 ≤ uptoBulk x.1 := by
  obtain ⟨ad, l, cap, rfl, hc, hA, hs⟩ := open_elems (R := SpotR) (g := fun s => s.set.length + 6) Tryz.underlying53 cells114 (by decide) h (fun n _ cs' y b o hy hcl => by
    obtain ⟨xs, n', _, rfl, hl, hlen, hf⟩ := DataW.trod_struct Tryz.underlying114 hy
    rw [cells114] at hl
    match cs', hl, xs, hlen with
    | [c0, c1, c2, c3, c4], _, [y0, y1, y2, y3, y4], _ =>
      have h0 := hf 0 _ rfl
      have h1 := hf 1 _ rfl
      have h2 := hf 2 _ rfl
      have h3 := hf 3 _ rfl
      have h4 := hf 4 _ rfl
      simp [cells25, cells3] at h0 h1 h2 h3 h4
      obtain ⟨k0, e0, rfl, -⟩ := DataW.trod_int Tryz.underlying3 h0
      obtain ⟨k1, e1, rfl, -⟩ := DataW.trod_int Tryz.underlying3 h1
      obtain ⟨v, set, e2, hv, hvl⟩ := open25 h2
      obtain ⟨k3, e3, rfl, -⟩ := DataW.trod_int Tryz.underlying3 h3
      obtain ⟨k4, e4, rfl, -⟩ := DataW.trod_int Tryz.underlying3 h4
      simp at e0 e1 e2 e3 e4
      subst e0 e1 e2 e3 e4
      refine ⟨⟨k0, k1, set, k3, k4⟩, ⟨by simpa using hcl 0 (by decide), by simpa using hcl 1 (by decide), ⟨_, by simpa using hcl 2 (by decide), hv⟩, by simpa using hcl 3 (by decide), by simpa using hcl 4 (by decide)⟩, ?_⟩
      simp [uptoBulk, uptoBulkAll]; omega)
  exact ⟨_, l, rfl, ⟨ad, cap, rfl, hA⟩, hs⟩

def FormR (w : World) (b i : Nat) : FT → Prop
  | .node op name val bound args => w.cell? ⟨b, i, none⟩ = some (.int .i64 op) ∧ w.cell? ⟨b, i + 1, none⟩ = some (.string name) ∧ w.cell? ⟨b, i + 2, none⟩ = some (.int .i64 val) ∧ w.cell? ⟨b, i + 3, none⟩ = some (.int .i64 bound) ∧
    (∃ a cap, w.cell? ⟨b, i + 4, none⟩ = some (.slice a args.length cap) ∧ (args = [] ∨ ∃ b' o', a = some ⟨b', o', none⟩ ∧ b' < w.heap.size ∧ FormsAt w b' o' 0 args))

theorem forms_at {b o : Nat} : ∀ {l : List FT} {j : Nat}, (∀ (i : Nat) f, l[i]? = some f → FormR w b (o + (j + i) * 5) f) → FormsAt w b o j l
  | [], _, _ => by unfold FormsAt; trivial
  | .node op name val bound args :: r, j, h => by
    have h0 := h 0 _ rfl
    unfold FormsAt
    unfold FormR at h0
    rw [Nat.add_zero] at h0
    exact ⟨h0.1, h0.2.1, h0.2.2.1, h0.2.2.2.1, h0.2.2.2.2, forms_at (fun i f hi => by have := h (i + 1) f (by simpa using hi); rwa [show j + (i + 1) = j + 1 + i by omega] at this)⟩

theorem enc_sum : ∀ l : List FT, (l.map fun f => (encF [f]).length).sum = (encF l).length
  | [] => by simp [encF]
  | f :: r => by
    have := encF_app [f] r
    rw [List.singleton_append] at this
    rw [this, List.length_append, List.map_cons, List.sum_cons, enc_sum r]

theorem open48 {fuel : Nat} (ih : ∀ n, n < fuel → ∀ (cs : List Value) (x : DataW H × List MemPlace), DataW.trod enc Tryz.prog w 0 sp held n 46 cs = some x → ∃ v l, cs = [v] ∧ FormsV w v l ∧ (encF l).length + 1 ≤ uptoBulk x.1)
    {cs : List Value} {x : DataW H × List MemPlace} (h : DataW.trod enc Tryz.prog w 0 sp held fuel 48 cs = some x) :
    ∃ op name val bound v args, cs = [.int .i64 op, .string name, .int .i64 val, .int .i64 bound, v] ∧ FormsV w v args ∧ (encF [.node op name val bound args]).length ≤ uptoBulk x.1 := by
  obtain ⟨xs, n, rfl, rfl, hl, hlen, hf⟩ := DataW.trod_struct Tryz.underlying48 h
  rw [cells48] at hl
  match cs, hl, xs, hlen with
  | [c0, c1, c2, c3, c4], _, [y0, y1, y2, y3, y4], _ =>
    have h0 := hf 0 _ rfl
    have h1 := hf 1 _ rfl
    have h2 := hf 2 _ rfl
    have h3 := hf 3 _ rfl
    have h4 := hf 4 _ rfl
    simp [cells9, cells3, cells46] at h0 h1 h2 h3 h4
    obtain ⟨k0, e0, rfl, -⟩ := DataW.trod_int Tryz.underlying3 h0
    obtain ⟨s, e1, rfl, -⟩ := DataW.trod_string Tryz.underlying9 h1
    obtain ⟨k2, e2, rfl, -⟩ := DataW.trod_int Tryz.underlying3 h2
    obtain ⟨k3, e3, rfl, -⟩ := DataW.trod_int Tryz.underlying3 h3
    obtain ⟨v, l, e4, hv, hvl⟩ := ih n (by omega) _ _ h4
    simp at e0 e1 e2 e3 e4
    subst e0 e1 e2 e3 e4
    refine ⟨k0, s, k2, k3, _, l, rfl, hv, ?_⟩
    rw [encF_node]
    simp [uptoBulk, uptoBulkAll, nameEnc_length]
    omega

theorem open46 : ∀ (fuel : Nat) (cs : List Value) (x : DataW H × List MemPlace), DataW.trod enc Tryz.prog w 0 sp held fuel 46 cs = some x → ∃ v l, cs = [v] ∧ FormsV w v l ∧ (encF l).length + 1 ≤ uptoBulk x.1 := by
  intro fuel
  induction fuel using Nat.strongRecOn with
  | _ fuel ih =>
    intro cs x h
    obtain ⟨ad, l, cap, rfl, hc, hA, hs⟩ := open_elems (R := FormR) (g := fun f => (encF [f]).length) Tryz.underlying46 cells48 (by decide) h (fun n hn cs' y b o hy hcl => by
      obtain ⟨op, name, val, bound, v, args, rfl, hv, hg⟩ := open48 (fun m hm => ih m (by omega)) hy
      obtain ⟨a, cap, rfl, hv⟩ := hv
      exact ⟨.node op name val bound args, ⟨by simpa using hcl 0 (by decide), by simpa using hcl 1 (by decide), by simpa using hcl 2 (by decide), by simpa using hcl 3 (by decide), a, cap, by simpa using hcl 4 (by decide), hv⟩, hg⟩)
    rw [enc_sum] at hs
    refine ⟨_, l, rfl, ⟨ad, cap, rfl, ?_⟩, hs⟩
    rcases hA with h | ⟨b, o, e, hb, hx⟩
    · exact .inl h
    · exact .inr ⟨b, o, e, hb, forms_at (fun i f hi => by have := hx i f hi; rwa [Nat.zero_add])⟩

theorem list24 {α : Type} {cs : List α} (h : cs.length = 24) : ∃ c0 c1 c2 c3 c4 c5 c6 c7 c8 c9 c10 c11 c12 c13 c14 c15 c16 c17 c18 c19 c20 c21 c22 c23, cs = [c0, c1, c2, c3, c4, c5, c6, c7, c8, c9, c10, c11, c12, c13, c14, c15, c16, c17, c18, c19, c20, c21, c22, c23] := by
  match cs, h with
  | [c0, c1, c2, c3, c4, c5, c6, c7, c8, c9, c10, c11, c12, c13, c14, c15, c16, c17, c18, c19, c20, c21, c22, c23], _ => exact ⟨_, _, _, _, _, _, _, _, _, _, _, _, _, _, _, _, _, _, _, _, _, _, _, _, rfl⟩
theorem list10 {α : Type} {cs : List α} (h : cs.length = 10) : ∃ c0 c1 c2 c3 c4 c5 c6 c7 c8 c9, cs = [c0, c1, c2, c3, c4, c5, c6, c7, c8, c9] := by
  match cs, h with
  | [c0, c1, c2, c3, c4, c5, c6, c7, c8, c9], _ => exact ⟨_, _, _, _, _, _, _, _, _, _, rfl⟩
theorem list5 {α : Type} {cs : List α} (h : cs.length = 5) : ∃ c0 c1 c2 c3 c4, cs = [c0, c1, c2, c3, c4] := by
  match cs, h with
  | [c0, c1, c2, c3, c4], _ => exact ⟨_, _, _, _, _, rfl⟩
theorem list3 {α : Type} {cs : List α} (h : cs.length = 3) : ∃ c0 c1 c2, cs = [c0, c1, c2] := by
  match cs, h with
  | [c0, c1, c2], _ => exact ⟨_, _, _, rfl⟩

theorem open50 {fuel : Nat} {cs : List Value} {x : DataW H × List MemPlace} (h : DataW.trod enc Tryz.prog w 0 sp held fuel 50 cs = some x) :
    ∃ (m : MealyD) (u t : Value), cs = [.int .i64 m.ins, .int .i64 m.outs, .int .i64 m.start, u, t] ∧ RowsV w u m.out ∧ RowsV w t m.next ∧ (m.out.map fun r => r.length + 1).sum ≤ uptoBulk x.1 := by
  obtain ⟨xs, n, rfl, rfl, hl, hlen, hf⟩ := DataW.trod_struct Tryz.underlying50 h
  rw [cells50] at hl
  obtain ⟨c0, c1, c2, c3, c4, rfl⟩ := list5 hl
  obtain ⟨y0, y1, y2, y3, y4, rfl⟩ := list5 hlen
  have h0 := hf 0 _ rfl
  have h1 := hf 1 _ rfl
  have h2 := hf 2 _ rfl
  have h3 := hf 3 _ rfl
  have h4 := hf 4 _ rfl
  simp [cells3, cells37] at h0 h1 h2 h3 h4
  obtain ⟨k0, e0, rfl, -⟩ := DataW.trod_int Tryz.underlying3 h0
  obtain ⟨k1, e1, rfl, -⟩ := DataW.trod_int Tryz.underlying3 h1
  obtain ⟨k2, e2, rfl, -⟩ := DataW.trod_int Tryz.underlying3 h2
  obtain ⟨v3, l3, e3, hv3, hl3⟩ := open37 h3
  obtain ⟨v4, l4, e4, hv4, hl4⟩ := open37 h4
  simp at e0 e1 e2 e3 e4
  subst e0 e1 e2 e3 e4
  refine ⟨⟨k0, k1, k2, l3, l4⟩, _, _, rfl, hv3, hv4, ?_⟩
  simp only [uptoBulk, uptoBulkAll, List.map_cons, List.map_nil]
  omega

theorem open52 {fuel : Nat} {cs : List Value} {x : DataW H × List MemPlace} (h : DataW.trod enc Tryz.prog w 0 sp held fuel 52 cs = some x) :
    ∃ (m : MooreD) (u t : Value), cs = [.int .i64 m.ins, .int .i64 m.outs, .int .i64 m.start, u, t] ∧ IntsV w u m.inp ∧ RowsV w t m.next ∧ (m.next.map fun r => r.length + 1).sum ≤ uptoBulk x.1 := by
  obtain ⟨xs, n, rfl, rfl, hl, hlen, hf⟩ := DataW.trod_struct Tryz.underlying52 h
  rw [cells52] at hl
  obtain ⟨c0, c1, c2, c3, c4, rfl⟩ := list5 hl
  obtain ⟨y0, y1, y2, y3, y4, rfl⟩ := list5 hlen
  have h0 := hf 0 _ rfl
  have h1 := hf 1 _ rfl
  have h2 := hf 2 _ rfl
  have h3 := hf 3 _ rfl
  have h4 := hf 4 _ rfl
  simp [cells3, cells37, cells25] at h0 h1 h2 h3 h4
  obtain ⟨k0, e0, rfl, -⟩ := DataW.trod_int Tryz.underlying3 h0
  obtain ⟨k1, e1, rfl, -⟩ := DataW.trod_int Tryz.underlying3 h1
  obtain ⟨k2, e2, rfl, -⟩ := DataW.trod_int Tryz.underlying3 h2
  obtain ⟨v3, l3, e3, hv3, hl3⟩ := open25 h3
  obtain ⟨v4, l4, e4, hv4, hl4⟩ := open37 h4
  simp at e0 e1 e2 e3 e4
  subst e0 e1 e2 e3 e4
  refine ⟨⟨k0, k1, k2, l3, l4⟩, _, _, rfl, hv3, hv4, ?_⟩
  simp only [uptoBulk, uptoBulkAll, List.map_cons, List.map_nil]
  omega

theorem open39 {fuel : Nat} {cs : List Value} {x : DataW H × List MemPlace} (h : DataW.trod enc Tryz.prog w 0 sp held fuel 39 cs = some x) :
    ∃ (m : GameD) (u t s : Value), cs = [u, t, s] ∧ IntsV w u m.owner ∧ IntsV w t m.prio ∧ RowsV w s m.succ ∧ m.owner.length + (m.succ.map fun r => r.length + 1).sum ≤ uptoBulk x.1 := by
  obtain ⟨xs, n, rfl, rfl, hl, hlen, hf⟩ := DataW.trod_struct Tryz.underlying39 h
  rw [cells39] at hl
  obtain ⟨c0, c1, c2, rfl⟩ := list3 hl
  obtain ⟨y0, y1, y2, rfl⟩ := list3 hlen
  have h0 := hf 0 _ rfl
  have h1 := hf 1 _ rfl
  have h2 := hf 2 _ rfl
  simp [cells37, cells25] at h0 h1 h2
  obtain ⟨v0, l0, e0, hv0, hl0⟩ := open25 h0
  obtain ⟨v1, l1, e1, hv1, hl1⟩ := open25 h1
  obtain ⟨v2, l2, e2, hv2, hl2⟩ := open37 h2
  simp at e0 e1 e2
  subst e0 e1 e2
  refine ⟨⟨l0, l1, l2⟩, _, _, _, rfl, hv0, hv1, hv2, ?_⟩
  simp only [uptoBulk, uptoBulkAll, List.map_cons, List.map_nil]
  omega
end
end Go.Proofs.YtcedalofcekdkaaGreatDoor
end

section
namespace Go.Proofs.YtcedalofcekdkaaGreatDoor
open Go.RowKit
open Go.Proofs.YtcedalofcekdkaaGreatDoor.Rows (uptoBulk uptoBulkAll)
set_option maxRecDepth 100000
set_option linter.unusedVariables false

theorem sigs_len : ∀ l : List Sig, ((l.map sigEnc).flatten).length ≤ (l.map fun s => s.name.size + 4).sum
  | [] => by simp
  | s :: r => by
    have := sigs_len r
    simp only [List.map_cons, List.flatten_cons, List.length_append, List.sum_cons, sigEnc, nameEnc_length, List.length_cons, List.length_nil] at this ⊢
    omega
theorem sigs_cnt : ∀ l : List Sig, l.length ≤ (l.map fun s => s.name.size + 4).sum
  | [] => by simp
  | s :: r => by
    have := sigs_cnt r
    simp only [List.map_cons, List.sum_cons, List.length_cons] at this ⊢
    omega
theorem spots_len : ∀ l : List SpotD, ((l.map spotEnc).flatten).length ≤ (l.map fun s => s.set.length + 6).sum
  | [] => by simp
  | s :: r => by
    have := spots_len r
    simp only [List.map_cons, List.flatten_cons, List.length_append, List.sum_cons, spotEnc, listEnc, List.length_cons, List.length_nil] at this ⊢
    omega
theorem spots_cnt : ∀ l : List SpotD, l.length ≤ (l.map fun s => s.set.length + 6).sum
  | [] => by simp
  | s :: r => by
    have := spots_cnt r
    simp only [List.map_cons, List.sum_cons, List.length_cons] at this ⊢
    omega
theorem rows_cnt : ∀ l : List (List Int), l.length ≤ (l.map fun r => r.length + 1).sum
  | [] => by simp
  | s :: r => by
    have := rows_cnt r
    simp only [List.map_cons, List.sum_cons, List.length_cons] at this ⊢
    omega

theorem rows_take (l : List (List Int)) : ∀ k, ((List.range k).map fun i => (l.getD i []).length).sum ≤ (l.map fun r => r.length + 1).sum := by
  induction l with
  | nil => intro k; induction k with
    | zero => simp
    | succ k ih => rw [List.range_succ, List.map_append, List.sum_append]; simp at ih ⊢; omega
  | cons r l ih =>
    intro k
    cases k with
    | zero => simp
    | succ k =>
      rw [List.range_succ_eq_map, List.map_cons, List.sum_cons, List.map_map]
      have := ih k
      simp only [List.map_cons, List.sum_cons, Function.comp_def, List.getD_cons_zero, List.getD_cons_succ] at this ⊢
      omega
theorem ctrl_len (m : MealyD) (k : Nat) : (ctrlRows m k).length ≤ 2 * ((List.range k).map fun i => (m.out.getD i []).length).sum := by
  induction k with
  | zero => simp [ctrlRows]
  | succ k ih =>
    rw [ctrlRows_succ, List.length_append, pairs_length, List.range_succ, List.map_append, List.sum_append]
    simp only [List.map_cons, List.map_nil, List.sum_cons, List.sum_nil]
    omega
theorem env_len (m : MooreD) (k : Nat) : (envRows m k).length ≤ k + ((List.range k).map fun i => (m.next.getD i []).length).sum := by
  induction k with
  | zero => simp [envRows]
  | succ k ih =>
    rw [envRows_succ, List.length_append, List.length_cons, List.range_succ, List.map_append, List.sum_append]
    simp only [List.map_cons, List.map_nil, List.sum_cons, List.sum_nil]
    omega
theorem game_len (m : GameD) (k : Nat) : (gameRows m k).length ≤ 3 * k + ((List.range k).map fun i => (m.succ.getD i []).length).sum := by
  induction k with
  | zero => simp [gameRows]
  | succ k ih =>
    rw [gameRows_succ, List.length_append, List.range_succ, List.map_append, List.sum_append]
    simp only [gameRow, listEnc, List.length_append, List.length_cons, List.length_nil, List.map_cons, List.map_nil, List.sum_cons, List.sum_nil] at ih ⊢
    omega
theorem lists_len : ∀ l : List (List Int), ((l.map listEnc).flatten).length ≤ (l.map fun r => r.length + 1).sum
  | [] => by simp
  | s :: r => by
    have := lists_len r
    simp only [List.map_cons, List.flatten_cons, List.length_append, List.sum_cons, listEnc, List.length_cons] at this ⊢
    omega

section
variable {H : Type} {enc : TypeId × Value → H} {w : World} {sp : Nat → Bool} {held : Bool}

theorem open55 {fuel : Nat} {cs : List Value} {x : DataW H × List MemPlace} (h : DataW.trod enc Tryz.prog w 0 sp held fuel 55 cs = some x) (hx : uptoBulk x.1 ≤ 1048576) : ∃ c : ClaimD, ClaimC w cs.toArray c ∧ Room c := by
  obtain ⟨xs, n, rfl, rfl, hl, hlen, hf⟩ := DataW.trod_struct Tryz.underlying55 h
  rw [cells55] at hl
  obtain ⟨c0, c1, c2, c3, c4, c5, c6, c7, c8, c9, c10, c11, c12, c13, c14, c15, c16, c17, c18, c19, c20, c21, c22, c23, rfl⟩ := list24 hl
  obtain ⟨y0, y1, y2, y3, y4, y5, y6, y7, y8, y9, rfl⟩ := list10 hlen
  have h0 := hf 0 _ rfl
  have h1 := hf 1 _ rfl
  have h2 := hf 2 _ rfl
  have h3 := hf 3 _ rfl
  have h4 := hf 4 _ rfl
  have h5 := hf 5 _ rfl
  have h6 := hf 6 _ rfl
  have h7 := hf 7 _ rfl
  have h8 := hf 8 _ rfl
  have h9 := hf 9 _ rfl
  simp [cells3, cells45, cells48, cells50, cells52, cells53, cells39, cells37, cells25, cells46] at h0 h1 h2 h3 h4 h5 h6 h7 h8 h9
  obtain ⟨k0, e0, b0, -⟩ := DataW.trod_int Tryz.underlying3 h0
  obtain ⟨v1, sigs, e1, hv1, b1⟩ := open45 h1
  obtain ⟨op, name, val, bound, v2, args, e2, hv2, b2⟩ := open48 (fun m _ cs x hh => open46 m cs x hh) h2
  obtain ⟨ctrl, u3, t3, e3, hu3, ht3, b3⟩ := open50 h3
  obtain ⟨env, u4, t4, e4, hu4, ht4, b4⟩ := open52 h4
  obtain ⟨v5, spots, e5, hv5, b5⟩ := open53 h5
  obtain ⟨game, u6, t6, s6, e6, hu6, ht6, hs6, b6⟩ := open39 h6
  obtain ⟨v7, measure, e7, hv7, b7⟩ := open37 h7
  obtain ⟨v8, letters, e8, hv8, b8⟩ := open25 h8
  obtain ⟨v9, residuals, e9, hv9, b9⟩ := open46 n _ _ h9
  simp only [List.cons.injEq, and_true] at e0 e1 e2 e3 e4 e5 e6 e7 e8 e9
  subst e0 e1 e5 e7 e8 e9
  obtain ⟨rfl, rfl, rfl, rfl, rfl⟩ := e2
  obtain ⟨rfl, rfl, rfl, rfl, rfl⟩ := e3
  obtain ⟨rfl, rfl, rfl, rfl, rfl⟩ := e4
  obtain ⟨rfl, rfl, rfl⟩ := e6
  simp only [uptoBulk, uptoBulkAll, List.map_cons, List.map_nil] at hx
  refine ⟨⟨k0, sigs, .node op name val bound args, ctrl, env, spots, game, measure, letters, residuals⟩, ⟨_, op, name, val, bound, args, _, _, _, _, _, _, _, _, _, _, _, _, rfl, rfl, hv1, hv2, hu3, ht3, hu4, ht4, hv5, hu6, ht6, hs6, hv7, hv8, hv9⟩, ?_⟩
  have a1 := sigs_len sigs
  have a2 := sigs_cnt sigs
  have a3 := spots_len spots
  have a4 := spots_cnt spots
  have a5 := rows_cnt ctrl.out
  have a6 := Nat.le_trans (ctrl_len ctrl ctrl.out.length) (Nat.mul_le_mul_left 2 (rows_take ctrl.out _))
  have a7 := rows_cnt env.next
  have a8 := Nat.le_trans (env_len env env.next.length) (Nat.add_le_add_left (rows_take env.next _) _)
  have a9 := Nat.le_trans (game_len game game.owner.length) (Nat.add_le_add_left (rows_take game.succ _) _)
  have a10 := lists_len measure
  have a11 := rows_cnt measure
  refine ⟨?_, ?_, ?_, ?_, ?_, ?_, ?_, ?_⟩
  · simp only; omega
  · simp only; omega
  · simp only [ctrlEnc, ctrlHead, List.length_append, List.length_cons, List.length_nil]; omega
  · simp only [envEnc, envHead, List.length_append, List.length_cons, List.length_nil]; omega
  · simp only; omega
  · simp only [regionEnc, List.length_append, List.length_cons]; omega
  · simp only; omega
  · simp only; omega
end
end Go.Proofs.YtcedalofcekdkaaGreatDoor
end
