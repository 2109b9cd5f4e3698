/- empty; formula.Compare against the empty formula. -/
import Derived.Test.YtcedalofcekdkaaGreatDoorMemA
import Derived.Deep.DeepFit
import Derived.Deep.RegionWith
import Derived.Laws.Cover1
import Derived.StillTailTactics
set_option linter.unusedSimpArgs false
set_option linter.unusedVariables false
section
namespace Go.Proofs.YtcedalofcekdkaaGreatDoor
open Go.RowKit

def Nums (w : World) (a : Option Addr) (xs : List Int) : Prop := xs = [] ∨ ∃ b o, a = some ⟨b, o, none⟩ ∧ ∀ (j : Nat) (x : Int), xs[j]? = some x → w.cell? ⟨b, o + j, none⟩ = some (.int .i64 x)

set_option maxHeartbeats 800000 in
theorem nonzero_calls (w : World) (n : Int) : Calls Tryz.prog 133 #[.int .i64 n] w fun e w' => e = .returned (.bool (decide (n ≠ 0))) ∧ w' = w := by
  go_enter Tryz.func133, Tryz.ntmps133
  by_cases h : n = 0
  · go_wp2
    go_ret
    refine ⟨by simp [h], rfl⟩
  · go_wp2
    go_ret
    refine ⟨by simp [h], rfl⟩

set_option maxHeartbeats 1600000 in
set_option maxRecDepth 1000000 in
theorem index_calls (w : World) (a : Option Addr) (cap : Nat) (xs : List Int) (hx : Nums w a xs) (hlen : xs.length ≤ 1000000000000) :
    Calls Tryz.prog 153 #[.slice a xs.length cap, .func (.func 133) #[] #[]] w fun e w' => (∃ i : Int, e = .returned (.int .i64 i) ∧ (0 ≤ i ↔ ¬ ∀ x ∈ xs, x = 0)) ∧ w' = w := by
  go_enter Tryz.func153, Tryz.ntmps153
  go_wp2
  go_loopw [8] (fun i wr => wr = w ∧ ∃ k : Nat, k ≤ xs.length ∧ i = .int .i64 k ∧ ∀ j, j < k → xs[j]? = some 0) (fun i _ => xs.length - (RowKit.intOf i).toNat)
  case atStart => exact ⟨rfl, 0, Nat.zero_le _, rfl, fun j h => absurd h (Nat.not_lt_zero _)⟩
  case round =>
    obtain ⟨rfl, k, hk, rfl, hz⟩ := hrel
    by_cases hkl : k < xs.length
    · rcases hx with hx | ⟨b, o, rfl, hc⟩
      · subst hx; simp at hkl
      have hn : ∃ n, xs[k]? = some n := ⟨xs[k], by simp [hkl]⟩
      obtain ⟨n, hn⟩ := hn
      have c0 := hc k n hn
      clear hc
      by_cases h0 : n = 0
      · subst h0
        have hcon := nonzero_calls wr 0
        go_wp2_with fail
        go_fit hcon
        rintro e w2 ⟨rfl, rfl⟩
        go_wp2
        go_roundw
        case rel => exact ⟨trivial, k + 1, by omega, by go_num, fun j hj => by
          by_cases e : j = k
          · rw [e]; exact hn
          · exact hz j (by omega)⟩
        case measure => simp [RowKit.intOf]; omega
      · have hcon := nonzero_calls wr n
        rw [show decide (n ≠ 0) = true by simp [h0]] at hcon
        go_wp2_with fail
        go_fit hcon
        rintro e w2 ⟨rfl, rfl⟩
        go_wp2
        go_ret
        exact ⟨⟨k, rfl, fun _ h => h0 (h n (List.mem_of_getElem? hn)), fun _ => by omega⟩, rfl⟩
    · go_wp2
      go_ret
      refine ⟨⟨-1, rfl, fun h => absurd h (by decide), fun h => absurd (fun x hx => ?_) h⟩, rfl⟩
      obtain ⟨j, hj⟩ := List.getElem?_of_mem hx
      have := hz j (by have := (List.getElem?_eq_some_iff.1 hj).1; omega)
      rw [hj] at this; exact Option.some.inj this

set_option maxHeartbeats 800000 in
theorem contains_calls (w : World) (a : Option Addr) (cap : Nat) (xs : List Int) (hx : Nums w a xs) (hlen : xs.length ≤ 1000000000000) :
    Calls Tryz.prog 83 #[.slice a xs.length cap, .func (.func 133) #[] #[]] w fun e w' => e = .returned (.bool (!decide (∀ x ∈ xs, x = 0))) ∧ w' = w := by
  have hcon := index_calls w a cap xs hx hlen
  go_enter Tryz.func83, Tryz.ntmps83
  go_wp2_with fail
  go_fit hcon
  rintro e w2 ⟨⟨i, rfl, hi⟩, rfl⟩
  by_cases h : 0 ≤ i
  · have h2 : decide (∀ x ∈ xs, x = 0) = false := decide_eq_false (hi.1 h)
    clear hi hcon
    go_wp2
    go_ret
    exact ⟨by rw [h2]; rfl, rfl⟩
  · have h2 : decide (∀ x ∈ xs, x = 0) = true := decide_eq_true (Classical.not_not.1 (fun h' => h (hi.2 h')))
    clear hi hcon
    go_wp2
    go_ret
    exact ⟨by rw [h2]; show Ending.returned (.bool (decide (0 ≤ i))) = _; rw [decide_eq_false (by omega)]; rfl, rfl⟩

set_option maxHeartbeats 800000 in
theorem empty_calls (w : World) (a : Option Addr) (cap : Nat) (xs : List Int) (hx : Nums w a xs) (hlen : xs.length ≤ 1000000000000) :
    Calls Tryz.prog 63 #[.slice a xs.length cap] w fun e w' => e = .returned (.bool (decide (∀ x ∈ xs, x = 0))) ∧ w' = w := by
  have hcon := contains_calls w a cap xs hx hlen
  go_enter Tryz.func63, Tryz.ntmps63
  go_wp2_with fail
  go_fit hcon
  rintro e w2 ⟨rfl, rfl⟩
  go_wp2
  go_ret
  simp
end Go.Proofs.YtcedalofcekdkaaGreatDoor
end

section
namespace Go.Proofs.YtcedalofcekdkaaGreatDoor
open Go.RowKit

theorem nil_of_empty {s : ByteArray} (h : s.toList = []) : s = ByteArray.empty := by
  have e : s.data.toList = [] := by rw [← h, ByteArray.toList_eq]
  cases s with
  | mk d => cases d; simp at e; subst e; rfl

def cmpI (a b : Int) : Int := if a < b then -1 else if b < a then 1 else 0
def cmpS (s : ByteArray) : Int := if s.toList.isEmpty = true then 0 else 1
theorem cmpI_zero (a b : Int) : cmpI a b = 0 ↔ a = b := by
  unfold cmpI
  constructor
  · intro h
    split at h
    · cases h
    · split at h
      · cases h
      · omega
  · intro h; subst h; simp
theorem cmpS_zero (s : ByteArray) : cmpS s = 0 ↔ s = ByteArray.empty := by
  unfold cmpS
  constructor
  · intro h; split at h
    · exact nil_of_empty (List.isEmpty_iff.1 (by assumption))
    · cases h
  · intro h; subst h; rw [if_pos]; rw [ByteArray.toList_eq]; rfl

set_option maxHeartbeats 1600000 in
theorem cmpi_calls (a b : Int) (w : World) :
    Calls Tryz.prog 135 #[.int .i64 a, .int .i64 b] w fun e w' => e = .returned (.int .i64 (cmpI a b)) ∧ w' = w := by
  unfold cmpI
  go_enter Tryz.func135, Tryz.ntmps135
  by_cases h : a < b
  · go_wp2
    go_ret
    exact ⟨rfl, rfl⟩
  · by_cases h2 : b < a
    · go_wp2
      go_ret
      exact ⟨rfl, rfl⟩
    · go_wp2
      go_ret
      exact ⟨rfl, rfl⟩

set_option maxHeartbeats 1600000 in
theorem cmps_calls (s : ByteArray) (w : World) :
    Calls Tryz.prog 136 #[.string s, .string ByteArray.empty] w fun e w' => e = .returned (.int .i64 (cmpS s)) ∧ w' = w := by
  unfold cmpS
  go_enter Tryz.func136, Tryz.ntmps136
  have hb : Op.bytesLess s.toList [] = false := by cases s.toList <;> rfl
  by_cases h : s.toList.isEmpty = true
  · rw [if_pos h]
    go_wp2
    go_ret
    exact ⟨rfl, rfl⟩
  · rw [if_neg h]
    have h2 : s.toList.isEmpty = false := by simpa using h
    clear h
    go_wp2
    go_ret
    exact ⟨rfl, rfl⟩

set_option maxHeartbeats 1600000 in
set_option maxRecDepth 1000000 in
theorem or_calls (w : World) (a : Option Addr) (cap : Nat) (xs : List Int) (hx : Nums w a xs) (hlen : xs.length ≤ 1000000000000) :
    Calls Tryz.prog 134 #[.slice a xs.length cap] w fun e w' => (∃ d : Int, e = .returned (.int .i64 d) ∧ (d = 0 ↔ ∀ x ∈ xs, x = 0)) ∧ w' = w := by
  go_enter Tryz.func134, Tryz.ntmps134
  go_wp2
  go_loopw [8] (fun i wr => wr = w ∧ ∃ k : Nat, k ≤ xs.length ∧ i = .int .i64 k ∧ ∀ j, j < k → xs[j]? = some 0) (fun i _ => xs.length - (RowKit.intOf i).toNat)
  case atStart => exact ⟨rfl, 0, Nat.zero_le _, rfl, fun j h => absurd h (Nat.not_lt_zero _)⟩
  case round =>
    obtain ⟨rfl, k, hk, rfl, hz⟩ := hrel
    by_cases hkl : k < xs.length
    · rcases hx with hx | ⟨b, o, rfl, hc⟩
      · subst hx; simp at hkl
      have hn : ∃ n, xs[k]? = some n := ⟨xs[k], by simp [hkl]⟩
      obtain ⟨n, hn⟩ := hn
      have c0 := hc k n hn
      clear hc
      by_cases h0 : n = 0
      · subst h0
        go_wp2
        go_roundw
        case rel => exact ⟨trivial, k + 1, by omega, by go_num, fun j hj => by
          by_cases e : j = k
          · rw [e]; exact hn
          · exact hz j (by omega)⟩
        case measure => simp [RowKit.intOf]; omega
      · go_wp2
        go_ret
        exact ⟨⟨n, rfl, fun h => absurd h h0, fun h => h n (List.mem_of_getElem? hn)⟩, rfl⟩
    · go_wp2
      go_ret
      refine ⟨⟨0, rfl, fun _ x hx => ?_, fun _ => rfl⟩, rfl⟩
      obtain ⟨j, hj⟩ := List.getElem?_of_mem hx
      have := hz j (by have := (List.getElem?_eq_some_iff.1 hj).1; omega)
      rw [hj] at this; exact Option.some.inj this

set_option maxHeartbeats 1600000 in
theorem comparefunc_calls (w : World) (a : Option Addr) (cap : Nat) :
    Calls Tryz.prog 137 #[.slice a 0 cap, .slice none 0 0, .func (.func 64) #[] #[]] w fun e w' => e = .returned (.int .i64 0) ∧ w' = w := by
  go_enter Tryz.func137, Tryz.ntmps137
  go_wp2
  go_loopw [13] (fun i wr => wr = w ∧ i = .int .i64 0) (fun _ _ => 0)
  case atStart => exact ⟨rfl, rfl⟩
  case round =>
    obtain ⟨rfl, rfl⟩ := hrel
    go_wp2
    go_ret
    exact ⟨rfl, rfl⟩

def emptyF : FT := .node 0 ByteArray.empty 0 0 []

set_option maxHeartbeats 3200000 in
set_option maxRecDepth 1000000 in
theorem compare_calls (w : World) (op : Int) (name : ByteArray) (val bound : Int) (a : Option Addr) (cap : Nat) (args : List FT) :
    Calls Tryz.prog 64 #[.agg #[.int .i64 op, .string name, .int .i64 val, .int .i64 bound, .slice a args.length cap], .agg #[.int .i64 0, .string ByteArray.empty, .int .i64 0, .int .i64 0, .slice none 0 0]] w fun e w' =>
      (∃ d : Int, e = .returned (.int .i64 d) ∧ (d = 0 ↔ FT.node op name val bound args = emptyF)) ∧ Below w.heap.size w w' := by
  go_enter Tryz.func64, Tryz.ntmps64
  go_wp2_with fail
  generalize hwb : (w.alloc (Obj.cells #[Value.int .i64 op, Value.string name, Value.int .i64 val, Value.int .i64 bound, Value.slice a args.length cap] 48)).alloc (Obj.cells #[Value.int .i64 0, Value.string ByteArray.empty, Value.int .i64 0, Value.int .i64 0, Value.slice none 0 0] 48) = wb
  have hBb : Below w.heap.size w wb := by rw [← hwb]; exact ((Below.refl _ w).alloc (Nat.le_refl _) _).alloc (by simp) _
  have hsb : wb.heap.size = w.heap.size + 2 := by rw [← hwb]; simp
  have hcA : ∀ i x, (#[Value.int .i64 op, Value.string name, Value.int .i64 val, Value.int .i64 bound, Value.slice a args.length cap])[i]? = some x → ∀ w2, Below wb.heap.size wb w2 → w2.cell? ⟨w.heap.size, i, none⟩ = some x := fun i x hx w2 h2 => by
    rw [h2.cell (p := ⟨w.heap.size, i, none⟩) (by show w.heap.size < _; omega), ← hwb]
    refine (((Below.refl (w.heap.size + 1) (w.alloc _)).alloc (by simp) _).cell (p := ⟨w.heap.size, i, none⟩) (by show w.heap.size < _; omega)).trans ?_
    rw [World.cell?_alloc_new]; exact hx
  have hcB : ∀ i x, (#[Value.int .i64 0, Value.string ByteArray.empty, Value.int .i64 0, Value.int .i64 0, Value.slice none 0 0])[i]? = some x → ∀ w2, Below wb.heap.size wb w2 → w2.cell? ⟨w.heap.size + 1, i, none⟩ = some x := fun i x hx w2 h2 => by
    rw [h2.cell (p := ⟨w.heap.size + 1, i, none⟩) (by show w.heap.size + 1 < _; omega), ← hwb]
    have := World.cell?_alloc_new (w.alloc (Obj.cells #[Value.int .i64 op, Value.string name, Value.int .i64 val, Value.int .i64 bound, Value.slice a args.length cap] 48)) #[Value.int .i64 0, Value.string ByteArray.empty, Value.int .i64 0, Value.int .i64 0, Value.slice none 0 0] 48 i
    simp only [World.size_alloc] at this
    rw [this]; exact hx
  clear hwb
  have hd : ∀ n, Below wb.heap.size wb (wb.drewN n) := fun n => ⟨rfl, rfl, rfl, Nat.le_refl _, fun _ _ => rfl⟩
  have x0 := hcA 0 _ rfl wb (Below.refl _ _)
  have x1 := hcA 1 _ rfl wb (Below.refl _ _)
  have x2 := hcA 2 _ rfl wb (Below.refl _ _)
  have x3 := hcA 3 _ rfl wb (Below.refl _ _)
  have x4 := hcA 4 _ rfl wb (Below.refl _ _)
  have y0 := hcB 0 _ rfl wb (Below.refl _ _)
  have y1 := hcB 1 _ rfl wb (Below.refl _ _)
  have y2 := hcB 2 _ rfl wb (Below.refl _ _)
  have y3 := hcB 3 _ rfl wb (Below.refl _ _)
  have y4 := hcB 4 _ rfl wb (Below.refl _ _)
  dsimp only [List.getElem_toArray, List.getElem_cons_zero, List.getElem_cons_succ] at x0 x1 x2 x3 x4 y0 y1 y2 y3 y4
  refine wp_region_still_tail 27 (by kernel_rfl) (by kernel_rfl) ?_
  simp only [List.take_succ_cons, List.take_zero, List.drop_succ_cons, List.drop_zero]
  repeat (first | still_step | still_call (cmpi_calls _ _ _) | still_call (cmps_calls _ _))
  refine wpStill_nil ?_
  change wpList _ _ _ _ _ wb.drew
  have hB2 : Below wb.heap.size wb wb.drew := ⟨rfl, rfl, rfl, Nat.le_refl _, fun _ _ => rfl⟩
  clear x0 x1 x2 x3 x4 y0 y1 y2 y3 y4
  generalize wb.drew = w2 at hB2 ⊢
  have hs2 := hB2.size
  have hB3 : ∀ O, Below wb.heap.size wb (w2.alloc O) := fun O => hB2.alloc hB2.size O
  have hor := or_calls (w2.alloc (Obj.cells #[Value.int .i64 (cmpI op 0), Value.int .i64 (cmpS name), Value.int .i64 (cmpI val 0), Value.int .i64 (cmpI bound 0), Value.int .i64 (cmpI args.length 0)] 3)) (some ⟨w2.heap.size, 0, none⟩) 5 [cmpI op 0, cmpS name, cmpI val 0, cmpI bound 0, cmpI args.length 0]
    (.inr ⟨_, _, rfl, fun j x hj => by rw [World.cell?_alloc_new, Nat.zero_add]; match j, hj with | 0, hj | 1, hj | 2, hj | 3, hj | 4, hj => (simp at hj ⊢; exact hj)⟩) (by simp)
  have x4 := hcA 4 _ rfl _ (hB3 (Obj.cells #[Value.int .i64 (cmpI op 0), Value.int .i64 (cmpS name), Value.int .i64 (cmpI val 0), Value.int .i64 (cmpI bound 0), Value.int .i64 (cmpI args.length 0)] 3))
  have y4 := hcB 4 _ rfl _ (hB3 (Obj.cells #[Value.int .i64 (cmpI op 0), Value.int .i64 (cmpS name), Value.int .i64 (cmpI val 0), Value.int .i64 (cmpI bound 0), Value.int .i64 (cmpI args.length 0)] 3))
  have hend : Below w.heap.size w (w2.alloc (Obj.cells #[Value.int .i64 (cmpI op 0), Value.int .i64 (cmpS name), Value.int .i64 (cmpI val 0), Value.int .i64 (cmpI bound 0), Value.int .i64 (cmpI args.length 0)] 3)) := hBb.trans ((hB3 _).mono (by omega))
  dsimp only [List.getElem_toArray, List.getElem_cons_zero, List.getElem_cons_succ] at x4 y4
  go_wp2_with fail
  go_fit hor
  rintro e w3 ⟨⟨d, rfl, hd0⟩, hw3⟩
  rw [← hw3] at x4 y4 hend
  have hiff : d = 0 ↔ FT.node op name val bound args = emptyF := by
    rw [hd0]
    simp only [List.mem_cons, List.not_mem_nil, or_false, forall_eq_or_imp, forall_eq, cmpI_zero, cmpS_zero, emptyF, FT.node.injEq]
    constructor
    · rintro ⟨h1, h2, h3, h4, h5⟩
      exact ⟨h1, h2, h3, h4, List.eq_nil_of_length_eq_zero (by omega)⟩
    · rintro ⟨h1, h2, h3, h4, h5⟩
      exact ⟨h1, h2, h3, h4, by rw [h5]; rfl⟩
  clear hor hB3 hcA hcB hd hw3
  by_cases h : d = 0
  · have hl : args.length = 0 := by
      have := hiff.1 h
      simp only [emptyF, FT.node.injEq] at this
      rw [this.2.2.2.2]; rfl
    rw [hl] at x4
    subst h
    have hres : ∃ d : Int, Ending.returned (.int .i64 0) = Ending.returned (.int .i64 d) ∧ (d = 0 ↔ FT.node op name val bound args = emptyF) := ⟨0, rfl, hiff⟩
    clear hd0 hiff
    revert hres
    generalize hPP : (∃ d : Int, Ending.returned (.int .i64 0) = Ending.returned (.int .i64 d) ∧ (d = 0 ↔ FT.node op name val bound args = emptyF)) = PP
    intro hres
    clear hl
    go_wp2_with fail
    go_fit (comparefunc_calls w3 a cap)
    rintro e w4 ⟨rfl, rfl⟩
    go_wp2
    go_ret
    exact ⟨by rw [← hPP] at hres; exact hres, hend⟩
  · clear hd0
    go_wp2_with fail
    go_ret
    exact ⟨⟨d, rfl, hiff⟩, hend⟩
end Go.Proofs.YtcedalofcekdkaaGreatDoor
end
