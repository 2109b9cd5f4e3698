/- The writer: signals, formula, spots, environment. -/
import Derived.Test.YtcedalofcekdkaaGreatDoorPutA
import Derived.Test.YtcedalofcekdkaaGreatDoorMemA
import Derived.Deep.DeepFit
set_option linter.unusedSimpArgs false
set_option linter.unusedVariables false
section
namespace Go.Proofs.YtcedalofcekdkaaGreatDoor
open Go.RowKit

def sigEnc (s : Sig) : List Int := nameEnc s.name ++ [if s.inp then 1 else 0, s.size]
def sigsEnc (l : List Sig) : List Int := (l.length : Int) :: (l.map sigEnc).flatten

theorem sigs_succ (l : List Sig) (k : Nat) (s : Sig) (h : l[k]? = some s) : ((l.take (k + 1)).map sigEnc).flatten = ((l.take k).map sigEnc).flatten ++ sigEnc s := by
  rw [List.take_add_one, h]
  simp

def letters (l : List Sig) : Nat := (l.map fun s => s.name.size + 3).sum

set_option maxHeartbeats 1600000 in
set_option maxRecDepth 1000000 in
theorem signals_calls {w w0 : World} {B g : Nat} {o : Option Nat} {nums : List Int} {x y : Bool} (h : Wr w w0.heap.size g o nums x y) {l : List Sig} {v : Value} (hl : SigsV w0 v l) (hB : Below w0.heap.size w0 w) (hlen : nums.length + l.length + ((l.map sigEnc).flatten).length ≤ 10000000000) :
    Calls Tryz.prog 66 #[.pointer (some ⟨g, 0, none⟩), v] w fun e w' => e = .returned (.tuple #[]) ∧ ∃ o', Wr w' w0.heap.size g o' (nums ++ sigsEnc l) (x || (sigsEnc l).any bad) y ∧ Kept g w o w' o' := by
  obtain ⟨a, cap, rfl, ha⟩ := hl
  have hmm := @run_makeMap Tryz.prog
  have hml := map_laid
  have hmt := fun w => map_found w true
  have hmf := fun w => map_found w false
  simp only [if_true, if_false, Bool.false_eq_true] at hmt hmf
  go_enter Tryz.func66, Tryz.ntmps66
  go_wp2_with fail
  go_fit (put_new h [(l.length : Int)] 1 (by simp; omega) hB.size)
  rintro e w1 ⟨rfl, o1, hw1, hk1⟩
  go_wp2_with fail
  go_loopw [14] (fun i wr => ∃ k : Nat, k ≤ l.length ∧ i = .int .i64 k ∧ ∃ o', Wr wr w0.heap.size g o' (nums ++ (l.length : Int) :: ((l.take k).map sigEnc).flatten) (x || ((l.length : Int) :: ((l.take k).map sigEnc).flatten).any bad) y ∧ Kept g w o wr o') (fun i _ => l.length - (RowKit.intOf i).toNat)
  case atStart => exact ⟨0, Nat.zero_le _, rfl, o1, by simpa using hw1, hk1⟩
  case round =>
    obtain ⟨k, hk, rfl, o2, hwr, hkp⟩ := hrel
    by_cases hkl : k < l.length
    · obtain ⟨b, o3, s, rfl, hb, hs, hc⟩ := ha.get hkl
      have hBr : Below w0.heap.size w0 wr := hB.trans (hkp.below h.low hB.size (fun k e => (h.own_lt k e).1))
      obtain ⟨c0, c1, c2⟩ := hc.below hb hBr
      have hlk : ((l.take k).map sigEnc).flatten.length + (sigEnc s).length ≤ ((l.map sigEnc).flatten).length := by
        rw [← List.length_append, ← sigs_succ l k s hs]
        conv => rhs; rw [← List.take_append_drop (k + 1) l, List.map_append, List.flatten_append, List.length_append]
        exact Nat.le_add_right _ _
      have hsl : (sigEnc s).length = s.name.size + 3 := by simp [sigEnc, nameEnc_length]
      have hname := fun O => name_calls (hwr.alloc O) s.name (by simp only [List.length_append, List.length_cons]; omega) (by have := hBr.size; simp; omega)
      have hfr := hwr.fresh
      have hg := hwr.lt
      clear ha hc hw1 hk1
      go_wp2_with fail
      go_fit (hname _)
      rintro e w2 ⟨rfl, o4, hw2, hk2⟩
      have d1 : w2.cell? ⟨wr.heap.size, 1, none⟩ = some (.bool s.inp) := by
        rw [hk2.cell (by simp) (by omega) hfr, World.cell?_alloc_new]; rfl
      have d2 : w2.cell? ⟨wr.heap.size, 2, none⟩ = some (.int .i64 s.size) := by
        rw [hk2.cell (by simp) (by omega) hfr, World.cell?_alloc_new]; rfl
      clear hname
      have hbig : (nums ++ (l.length : Int) :: ((l.take k).map sigEnc).flatten ++ nameEnc s.name).length + 2 ≤ 1000000000000 := by
        simp only [List.length_append, List.length_cons, nameEnc_length]; omega
      have hB2 : ∀ O, w0.heap.size ≤ (w2.alloc O).heap.size := fun O => by have := hBr.size; have := hk2.size; simp at this ⊢; omega
      cases hin : s.inp with
      | true =>
        rw [hin] at d1
        have d1' : ∀ O, (w2.alloc O).cell? ⟨wr.heap.size, 1, none⟩ = some (.bool true) := fun O => by rw [World.cell?_alloc_old _ _ _ (Nat.ne_of_lt (Nat.lt_of_lt_of_le (by simp) hk2.size))]; exact d1
        have d2' : ∀ O, (w2.alloc O).cell? ⟨wr.heap.size, 2, none⟩ = some (.int .i64 s.size) := fun O => by rw [World.cell?_alloc_old _ _ _ (Nat.ne_of_lt (Nat.lt_of_lt_of_le (by simp) hk2.size))]; exact d2
        have hse : sigEnc s = nameEnc s.name ++ [1, s.size] := by simp [sigEnc, hin]
        have hput := fun O => put_new (hw2.alloc O) [(1 : Int), s.size] 2 hbig (hB2 O)
        simp only [World.size_alloc] at hput
        clear d1 d2
        go_wp2_with fail
        go_fit (hput _)
        rintro e w3 ⟨rfl, o5, hw3, hk3⟩
        have hk4 := ((hkp.trans (Kept.alloc g wr o2 _)).trans hk2).trans ((Kept.alloc g w2 o4 _).trans hk3)
        rw [List.append_assoc, List.append_assoc, ← hse, Bool.or_assoc, Bool.or_assoc, ← List.any_append, ← List.any_append, ← hse, List.cons_append, ← sigs_succ l k s hs] at hw3
        clear hput d1' d2' hwr hw2 hk2 hk3 hkp
        go_wp2
        go_roundw
        case rel => exact ⟨k + 1, by omega, by go_num, o5, hw3, hk4⟩
        case measure => simp [RowKit.intOf]; omega
      | false =>
        rw [hin] at d1
        have d1' : ∀ O, (w2.alloc O).cell? ⟨wr.heap.size, 1, none⟩ = some (.bool false) := fun O => by rw [World.cell?_alloc_old _ _ _ (Nat.ne_of_lt (Nat.lt_of_lt_of_le (by simp) hk2.size))]; exact d1
        have d2' : ∀ O, (w2.alloc O).cell? ⟨wr.heap.size, 2, none⟩ = some (.int .i64 s.size) := fun O => by rw [World.cell?_alloc_old _ _ _ (Nat.ne_of_lt (Nat.lt_of_lt_of_le (by simp) hk2.size))]; exact d2
        have hse : sigEnc s = nameEnc s.name ++ [0, s.size] := by simp [sigEnc, hin]
        have hput := fun O => put_new (hw2.alloc O) [(0 : Int), s.size] 2 hbig (hB2 O)
        simp only [World.size_alloc] at hput
        clear d1 d2
        go_wp2_with fail
        go_fit (hput _)
        rintro e w3 ⟨rfl, o5, hw3, hk3⟩
        have hk4 := ((hkp.trans (Kept.alloc g wr o2 _)).trans hk2).trans ((Kept.alloc g w2 o4 _).trans hk3)
        rw [List.append_assoc, List.append_assoc, ← hse, Bool.or_assoc, Bool.or_assoc, ← List.any_append, ← List.any_append, ← hse, List.cons_append, ← sigs_succ l k s hs] at hw3
        clear hput d1' d2' hwr hw2 hk2 hk3 hkp
        go_wp2
        go_roundw
        case rel => exact ⟨k + 1, by omega, by go_num, o5, hw3, hk4⟩
        case measure => simp [RowKit.intOf]; omega
    · have hke : k = l.length := by omega
      go_wp2
      go_end0
      rw [hke, List.take_length] at hwr
      exact ⟨rfl, o2, hwr, hkp⟩
end Go.Proofs.YtcedalofcekdkaaGreatDoor
end

section
namespace Go.Proofs.YtcedalofcekdkaaGreatDoor
open Go.RowKit

def encF : List FT → List Int
  | [] => []
  | .node op name val bound args :: r => op :: (nameEnc name ++ ([val, bound, (args.length : Int)] ++ (encF args ++ encF r)))

theorem encF_app : ∀ a b : List FT, encF (a ++ b) = encF a ++ encF b
  | [], b => by simp [encF]
  | .node op name val bound args :: r, b => by
    rw [List.cons_append]
    simp only [encF]
    rw [encF_app r b]
    simp only [List.append_assoc, List.cons_append]

theorem encF_len : ∀ l : List FT, l.length ≤ (encF l).length
  | [] => Nat.zero_le _
  | .node op name val bound args :: r => by
    have := encF_len r
    simp only [encF, List.length_cons, List.length_append]
    omega

theorem encF_succ (l : List FT) (k : Nat) (f : FT) (h : l[k]? = some f) : encF (l.take (k + 1)) = encF (l.take k) ++ encF [f] := by
  rw [List.take_add_one, h, encF_app]
  simp

theorem encF_node (op : Int) (name : ByteArray) (val bound : Int) (args : List FT) : encF [.node op name val bound args] = [op] ++ nameEnc name ++ [val, bound, (args.length : Int)] ++ encF args := by
  simp [encF]

theorem encF_le (l : List FT) (k : Nat) : (encF (l.take k)).length ≤ (encF l).length := by
  conv => rhs; rw [← List.take_append_drop k l, encF_app, List.length_append]
  exact Nat.le_add_right _ _

set_option maxHeartbeats 3200000 in
set_option maxRecDepth 1000000 in
theorem formula_calls {w0 : World} {g : Nat} : ∀ (s : Nat) (f : FT), sz [f] ≤ s → ∀ (w : World) (o : Option Nat) (nums : List Int) (x y : Bool) (v : Value), Wr w w0.heap.size g o nums x y → FormV w0 v f → Below w0.heap.size w0 w → nums.length + (encF [f]).length ≤ 10000000000 →
    Calls Tryz.prog 139 #[.pointer (some ⟨g, 0, none⟩), v] w fun e w' => (∃ d : Int, e = .returned (.int .i64 d)) ∧ ∃ o', Wr w' w0.heap.size g o' (nums ++ encF [f]) (x || (encF [f]).any bad) y ∧ Kept g w o w' o'
  | 0, .node op name val bound args, hs => by simp [sz] at hs
  | s + 1, .node op name val bound args, hs => by
    intro w o nums x y v h hv hB hlen
    obtain ⟨u, rfl, a, cap, rfl, ha⟩ := hv
    rw [sz_node] at hs
    have hal := encF_len args
    rw [encF_node] at hlen ⊢
    simp only [List.length_append, List.length_cons, List.length_nil, nameEnc_length] at hlen
    go_enter Tryz.func139, Tryz.ntmps139
    go_wp2_with fail
    generalize hwb : w.alloc (Obj.cells #[Value.int .i64 op, Value.string name, Value.int .i64 val, Value.int .i64 bound, Value.slice a args.length cap] 48) = wb
    have hr : Wr wb w0.heap.size g o nums x y := by rw [← hwb]; exact h.alloc _
    have hkb : Kept g w o wb o := by rw [← hwb]; exact Kept.alloc g w o _
    have hfr := h.fresh
    have hlt := h.lt
    have hsb : wb.heap.size = w.heap.size + 1 := by rw [← hwb]; simp
    have hBb : Below w0.heap.size w0 wb := by rw [← hwb]; exact hB.alloc hB.size _
    have hc : ∀ {w2 : World} {o2 : Option Nat}, Kept g wb o w2 o2 → ∀ i x, (#[Value.int .i64 op, Value.string name, Value.int .i64 val, Value.int .i64 bound, Value.slice a args.length cap])[i]? = some x → w2.cell? ⟨w.heap.size, i, none⟩ = some x := fun hk i x hx => by
      rw [hk.cell (by omega) (by omega) hfr, ← hwb, World.cell?_alloc_new]; exact hx
    have hown : ∀ k, o = some k → w0.heap.size ≤ k := fun k e => (h.own_lt k e).1
    have hB0 := hBb.size
    clear hwb
    have hp1 := put_new hr [op] 1 (by simp; omega) hB0
    rw [hsb] at hp1
    go_fit hp1
    rintro e w1 ⟨rfl, o1, hw1, hk1⟩
    have d1 := hc hk1 1 _ rfl
    go_wp2_with fail
    go_fit (name_calls hw1 name (by simp; omega) (Nat.le_trans hB0 hk1.size))
    rintro e w2 ⟨rfl, o2, hw2, hk2⟩
    have hk12 := hk1.trans hk2
    have d2 := hc hk12 2 _ rfl
    have d3 := hc hk12 3 _ rfl
    have d4 := hc hk12 4 _ rfl
    clear d1 hp1
    go_wp2_with fail
    go_fit (put_new hw2 [val, bound, (args.length : Int)] 3 (by simp [nameEnc_length]; omega) (Nat.le_trans hB0 hk12.size))
    rintro e w3 ⟨rfl, o3, hw3, hk3⟩
    have hk13 := hk12.trans hk3
    have d4 := hc hk13 4 _ rfl
    clear d2 d3
    rw [Bool.or_assoc, Bool.or_assoc, ← List.any_append, ← List.any_append, List.append_assoc nums, List.append_assoc nums] at hw3
    rw [show [op] ++ (nameEnc name ++ [val, bound, (args.length : Int)]) = [op] ++ nameEnc name ++ [val, bound, (args.length : Int)] from (List.append_assoc _ _ _).symm] at hw3
    have hHl : ([op] ++ nameEnc name ++ [val, bound, (args.length : Int)]).length = name.size + 5 := by simp [nameEnc_length]
    generalize hH : [op] ++ nameEnc name ++ [val, bound, (args.length : Int)] = H at *
    clear hw1 hw2 hk1 hk2 hk3 hk12
    go_wp2_with fail
    clear d4
    go_loopw [5, 30] (fun t i wr => ∃ (k : Nat) (d : Int), k ≤ args.length ∧ i = .int .i64 k ∧ t = .int .i64 d ∧ ∃ o', Wr wr w0.heap.size g o' (nums ++ (H ++ encF (args.take k))) (x || (H ++ encF (args.take k)).any bad) y ∧ Kept g wb o wr o')
      (fun _ i _ => args.length - (RowKit.intOf i).toNat)
    case atStart => exact ⟨0, 0, Nat.zero_le _, rfl, rfl, o3, by simpa [encF] using hw3, hk13⟩
    case round =>
      obtain ⟨k, d, hk, rfl, rfl, o4, hwr, hkp⟩ := hrel
      have hBr : Below w0.heap.size w0 wr := hBb.trans (hkp.below h.low hB0 hown)
      by_cases hkl : k < args.length
      · obtain ⟨b, o5, op', name', val', bound', args', u', rfl, hb, hj, hu, d0, d1, d2, d3, d4⟩ := FormsV.get ha hkl
        have e0 := (hBr.cell (p := ⟨b, o5 + k * 5, none⟩) hb).trans d0
        have e1 := (hBr.cell (p := ⟨b, o5 + k * 5 + 1, none⟩) hb).trans d1
        have e2 := (hBr.cell (p := ⟨b, o5 + k * 5 + 2, none⟩) hb).trans d2
        have e3 := (hBr.cell (p := ⟨b, o5 + k * 5 + 3, none⟩) hb).trans d3
        have e4 := (hBr.cell (p := ⟨b, o5 + k * 5 + 4, none⟩) hb).trans d4
        obtain ⟨a', cap', rfl, hu'⟩ := hu
        have hsz := sz_get hj
        have hel := encF_le args (k + 1)
        rw [encF_succ args k _ hj, List.length_append] at hel
        have hrec := fun O => formula_calls s (.node op' name' val' bound' args') (by omega) (wr.alloc O) o4 (nums ++ (H ++ encF (args.take k))) (x || (H ++ encF (args.take k)).any bad) y _ (hwr.alloc O) ⟨_, rfl, a', cap', rfl, hu'⟩ (hBr.alloc hBr.size O) (by simp only [List.length_append] at hel ⊢; omega)
        clear d0 d1 d2 d3 d4 ha hw3 hk13 hc
        go_wp2_with fail
        go_fit (hrec _)
        rintro e w4 ⟨⟨d', rfl⟩, o6, hw4, hk4⟩
        have hk5 := hkp.trans ((Kept.alloc g wr o4 _).trans hk4)
        rw [Bool.or_assoc, ← List.any_append, List.append_assoc, List.append_assoc, ← encF_succ args k _ hj] at hw4
        clear hrec e0 e1 e2 e3 e4 hwr hkp hk4
        go_wp2
        go_roundw
        case rel => exact ⟨k + 1, _, by omega, by go_num, rfl, o6, hw4, hk5⟩
        case measure => simp [RowKit.intOf]; omega
      · have hke : k = args.length := by omega
        rw [hke, List.take_length] at hwr
        go_wp2
        go_ret
        refine ⟨⟨_, rfl⟩, o4, ?_, hkb.trans hkp⟩
        rw [← hH] at hwr
        simpa only [List.append_assoc, List.singleton_append, List.cons_append, List.nil_append] using hwr
end Go.Proofs.YtcedalofcekdkaaGreatDoor
end

section
namespace Go.Proofs.YtcedalofcekdkaaGreatDoor
open Go.RowKit

def spotEnc (s : SpotD) : List Int := [s.machine, s.memory] ++ (listEnc s.set ++ [s.turn, s.rank])
def spotsEnc (l : List SpotD) : List Int := (l.length : Int) :: (l.map spotEnc).flatten

theorem flat_succ {α : Type} (f : α → List Int) (l : List α) (k : Nat) (s : α) (h : l[k]? = some s) : ((l.take (k + 1)).map f).flatten = ((l.take k).map f).flatten ++ f s := by
  rw [List.take_add_one, h]
  simp

theorem flat_le {α : Type} (f : α → List Int) (l : List α) (k : Nat) (s : α) (h : l[k]? = some s) : ((l.take k).map f).flatten.length + (f s).length ≤ ((l.map f).flatten).length := by
  rw [← List.length_append, ← flat_succ f l k s h]
  conv => rhs; rw [← List.take_append_drop (k + 1) l, List.map_append, List.flatten_append, List.length_append]
  exact Nat.le_add_right _ _

theorem IntsV.src {w0 w : World} {g : Nat} {v : Value} {l : List Int} (h : IntsV w0 v l) (hg : w0.heap.size ≤ g) (hB : Below w0.heap.size w0 w) : ∃ a cap, v = .slice a l.length cap ∧ PutSrc g w a cap l := by
  obtain ⟨a, cap, e, h0, h⟩ := h
  refine ⟨a, cap, e, ?_⟩
  rcases h with h | ⟨b, o, h1, h2, h3⟩
  · subst h
    cases a with
    | none => exact .inl ⟨rfl, h0 rfl, rfl⟩
    | some ad => exact .inr ⟨ad, rfl, .inl rfl⟩
  · exact .inr ⟨_, h1, .inr ⟨b, o, rfl, Nat.lt_of_lt_of_le h2 hB.size, by omega, fun j x hj => (hB.cell (p := ⟨b, o + j, none⟩) h2).trans (h3 j x hj)⟩⟩

set_option maxHeartbeats 3200000 in
set_option maxRecDepth 1000000 in
theorem spots_calls {w w0 : World} {g : Nat} {o : Option Nat} {nums : List Int} {x y : Bool} (h : Wr w w0.heap.size g o nums x y) {l : List SpotD} {v : Value} (hl : SpotsV w0 v l) (hB : Below w0.heap.size w0 w) (hlen : nums.length + l.length + ((l.map spotEnc).flatten).length ≤ 10000000000) :
    Calls Tryz.prog 69 #[.pointer (some ⟨g, 0, none⟩), v] w fun e w' => e = .returned (.tuple #[]) ∧ ∃ o' y', Wr w' w0.heap.size g o' (nums ++ spotsEnc l) (x || (spotsEnc l).any bad) y' ∧ Kept g w o w' o' := by
  obtain ⟨a, cap, rfl, ha⟩ := hl
  have hc2 := h.c2
  have hf2 := h.fz 2
  have hset := h.setLarge (y || decide (3000 < (l.length : Int)))
  have hks := Kept.setCell g w o 2 (.bool (y || decide (3000 < (l.length : Int))))
  have hBs : Below w0.heap.size w0 (w.setCell ⟨g, 2, none⟩ (.bool (y || decide (3000 < (l.length : Int))))) := hB.setCell h.low _
  have hlow := h.low
  have hown : ∀ k, o = some k → w0.heap.size ≤ k := fun k e => (h.own_lt k e).1
  go_enter Tryz.func69, Tryz.ntmps69
  cases y
  all_goals
    simp only [Bool.true_or, Bool.false_or] at hset hks hBs
    go_wp2_with fail
    have hput := put_new hset [(l.length : Int)] 1 (by simp; omega) hBs.size
    rw [World.size_setCell] at hput
    go_fit hput
    rintro e w1 ⟨rfl, o1, hw1, hk1⟩
    have hk1 := hks.trans hk1
    clear hset hks hBs hput hc2 hf2 h
    go_wp2_with fail
    go_loopw [25] (fun i wr => ∃ k : Nat, k ≤ l.length ∧ i = .int .i64 k ∧ ∃ o' y', Wr wr w0.heap.size g o' (nums ++ (l.length : Int) :: ((l.take k).map spotEnc).flatten) (x || ((l.length : Int) :: ((l.take k).map spotEnc).flatten).any bad) y' ∧ Kept g w o wr o') (fun i _ => l.length - (RowKit.intOf i).toNat)
    case atStart => exact ⟨0, Nat.zero_le _, rfl, o1, _, by simpa using hw1, hk1⟩
    case round =>
      obtain ⟨k, hk, rfl, o2, y2, hwr, hkp⟩ := hrel
      by_cases hkl : k < l.length
      · obtain ⟨b, o3, s, rfl, hb, hs, hc⟩ := ha.get hkl
        have hBr : Below w0.heap.size w0 wr := hB.trans (hkp.below hlow hB.size hown)
        obtain ⟨d0, d1, ⟨u, d2, hu⟩, d3, d4⟩ := hc
        have c0 := (hBr.cell (p := ⟨b, o3 + k * 5, none⟩) hb).trans d0
        have c1 := (hBr.cell (p := ⟨b, o3 + k * 5 + 1, none⟩) hb).trans d1
        have c2 := (hBr.cell (p := ⟨b, o3 + k * 5 + 2, none⟩) hb).trans d2
        have c3 := (hBr.cell (p := ⟨b, o3 + k * 5 + 3, none⟩) hb).trans d3
        have c4 := (hBr.cell (p := ⟨b, o3 + k * 5 + 4, none⟩) hb).trans d4
        obtain ⟨a2, cap2, rfl, -⟩ := hu.src (g := g) hlow hBr
        have hsrc : ∀ {w'}, Below w0.heap.size w0 w' → PutSrc g w' a2 cap2 s.set := fun hB' => by
          obtain ⟨a3, cap3, e, h3⟩ := hu.src (g := g) hlow hB'
          injection e with e1 _ e2
          subst e1; subst e2; exact h3
        have hfl := flat_le spotEnc l k s hs
        have hsl : (spotEnc s).length = s.set.length + 5 := by simp [spotEnc, listEnc]
        have hfr := hwr.fresh
        have hgl := hwr.lt
        have hown2 : ∀ k, o2 = some k → w0.heap.size ≤ k := fun k e => (hwr.own_lt k e).1
        have hb0 := hBr.size
        clear d0 d1 d2 d3 d4 ha hu hw1 hk1
        go_wp2_with fail
        generalize hwb : wr.alloc (Obj.cells #[Value.int .i64 s.machine, Value.int .i64 s.memory, Value.slice a2 s.set.length cap2, Value.int .i64 s.turn, Value.int .i64 s.rank] 114) = wb
        have hr : Wr wb w0.heap.size g o2 (nums ++ (l.length : Int) :: ((l.take k).map spotEnc).flatten) (x || ((l.length : Int) :: ((l.take k).map spotEnc).flatten).any bad) y2 := by rw [← hwb]; exact hwr.alloc _
        have hkb : Kept g wr o2 wb o2 := by rw [← hwb]; exact Kept.alloc g wr o2 _
        have hsb : wb.heap.size = wr.heap.size + 1 := by rw [← hwb]; simp
        have hBb : Below w0.heap.size w0 wb := by rw [← hwb]; exact hBr.alloc hBr.size _
        have keep : ∀ {w2 : World} {o2' : Option Nat}, Kept g wb o2 w2 o2' → ∀ i x, (#[Value.int .i64 s.machine, Value.int .i64 s.memory, Value.slice a2 s.set.length cap2, Value.int .i64 s.turn, Value.int .i64 s.rank])[i]? = some x → w2.cell? ⟨wr.heap.size, i, none⟩ = some x := fun hk i x hx => by
          rw [hk.cell (by omega) (by omega) hfr, ← hwb, World.cell?_alloc_new]; exact hx
        clear hwb
        have hbase : (nums ++ (l.length : Int) :: ((l.take k).map spotEnc).flatten).length + s.set.length + 5 ≤ 100000000 * 1000 := by
          simp only [List.length_append, List.length_cons]; omega
        have hp1 := put_new hr [s.machine, s.memory] 2 (by simp only [List.length_cons, List.length_nil]; omega) (by omega)
        rw [hsb] at hp1
        go_fit hp1
        rintro e w3 ⟨rfl, o4, hw3, hk3⟩
        have f2 := keep hk3 2 _ rfl
        have hB3 := hBb.trans (hk3.below hlow (by omega) hown2)
        go_wp2_with fail
        go_fit (list_calls hw3 (hsrc hB3) (by simp only [List.length_append, List.length_cons, List.length_nil] at hbase ⊢; omega) hB3.size)
        rintro e w4 ⟨rfl, o5, hw4, hk4⟩
        have hk34 := hk3.trans hk4
        have f3 := keep hk34 3 _ rfl
        have f4 := keep hk34 4 _ rfl
        clear f2 hp1
        go_wp2_with fail
        go_fit (put_new hw4 [s.turn, s.rank] 2 (by simp only [List.length_append, List.length_cons, List.length_nil, listEnc] at hbase ⊢; omega) (by have := hk34.size; omega))
        rintro e w5 ⟨rfl, o6, hw5, hk5⟩
        have hk6 := (hkp.trans hkb).trans (hk34.trans hk5)
        rw [Bool.or_assoc, Bool.or_assoc, Bool.or_assoc, ← List.any_append, ← List.any_append, ← List.any_append, List.append_assoc, List.append_assoc, List.append_assoc] at hw5
        rw [show ((l.length : Int) :: ((l.take k).map spotEnc).flatten) ++ ([s.machine, s.memory] ++ (listEnc s.set ++ [s.turn, s.rank])) = (l.length : Int) :: ((l.take (k + 1)).map spotEnc).flatten by rw [flat_succ spotEnc l k s hs]; rfl] at hw5
        clear f3 f4 hwr hw3 hw4 hk3 hk4 hk5 hk34 hkb hkp keep hsrc c0 c1 c2 c3 c4 hr
        go_wp2
        go_roundw
        case rel => exact ⟨k + 1, by omega, by go_num, o6, y2, hw5, hk6⟩
        case measure => simp [RowKit.intOf]; omega
      · have hke : k = l.length := by omega
        go_wp2
        go_end0
        rw [hke, List.take_length] at hwr
        exact ⟨rfl, o2, y2, hwr, hkp⟩
end Go.Proofs.YtcedalofcekdkaaGreatDoor
end

section
namespace Go.Proofs.YtcedalofcekdkaaGreatDoor
open Go.RowKit

structure MooreD where
  ins : Int
  outs : Int
  start : Int
  inp : List Int
  next : List (List Int)
def MooreV (w : World) (v : Value) (m : MooreD) : Prop := ∃ u t, v = .agg #[.int .i64 m.ins, .int .i64 m.outs, .int .i64 m.start, u, t] ∧ IntsV w u m.inp ∧ RowsV w t m.next

def envHead (m : MooreD) : List Int := [m.ins, m.outs, m.start, (m.inp.length : Int)]

def envRows (m : MooreD) (k : Nat) : List Int := ((List.range k).map fun i => m.inp.getD i 0 :: m.next.getD i []).flatten
def envEnc (m : MooreD) : List Int := envHead m ++ envRows m m.next.length

theorem envRows_succ (m : MooreD) (k : Nat) : envRows m (k + 1) = envRows m k ++ (m.inp.getD k 0 :: m.next.getD k []) := by
  simp [envRows, List.range_succ]

theorem envRows_le (m : MooreD) (k n : Nat) (h : k ≤ n) : (envRows m k).length ≤ (envRows m n).length := by
  induction n with
  | zero => rw [show k = 0 by omega]; exact Nat.le_refl _
  | succ n ih =>
    by_cases e : k = n + 1
    · rw [e]; exact Nat.le_refl _
    · rw [envRows_succ, List.length_append]
      have := ih (by omega); omega

structure Set1 (p : Prop) : Prop where
  out : p

structure EnvSays (x x' : Bool) (m : MooreD) (nums nums' : List Int) : Prop where
  x : x = false
  len : m.next.length = m.inp.length
  rows : ∀ r ∈ m.next, (r.length : Int) = m.outs
  nums : nums' = nums ++ envEnc m
  fit : (envEnc m).any bad = false

set_option maxHeartbeats 3200000 in
set_option maxRecDepth 1000000 in
theorem env_calls {w w0 : World} {g : Nat} {o : Option Nat} {nums : List Int} {x y : Bool} (h : Wr w w0.heap.size g o nums x y) {m : MooreD} {v : Value} (hv : MooreV w0 v m) (hB : Below w0.heap.size w0 w) (hlen : nums.length + m.next.length + (envEnc m).length ≤ 10000000000) :
    Calls Tryz.prog 70 #[.pointer (some ⟨g, 0, none⟩), v] w fun e w' => e = .returned (.tuple #[]) ∧ ∃ o' x' nums', Wr w' w0.heap.size g o' nums' x' y ∧ Kept g w o w' o' ∧ nums'.length ≤ nums.length + (envEnc m).length ∧ (x' = false → EnvSays x x' m nums nums') := by
  obtain ⟨u, t, rfl, hu, a2, c2, rfl, ha⟩ := hv
  have hlow := h.low
  have hown : ∀ k, o = some k → w0.heap.size ≤ k := fun k e => (h.own_lt k e).1
  have hsrcI := hu
  obtain ⟨a1, c1, rfl, -, hi⟩ := hu
  have hfr := h.fresh
  have hgl := h.lt
  have hBs := hB.size
  have heh : (envHead m).length = 4 := rfl
  have hee : (envEnc m).length = 4 + (envRows m m.next.length).length := by simp [envEnc, heh]
  go_enter Tryz.func70, Tryz.ntmps70
  go_wp2_with fail
  generalize hwb : w.alloc (Obj.cells #[Value.int .i64 m.ins, Value.int .i64 m.outs, Value.int .i64 m.start, Value.slice a1 m.inp.length c1, Value.slice a2 m.next.length c2] 52) = wb
  have hr : Wr wb w0.heap.size g o nums x y := by rw [← hwb]; exact h.alloc _
  have hkb : Kept g w o wb o := by rw [← hwb]; exact Kept.alloc g w o _
  have hsb : wb.heap.size = w.heap.size + 1 := by rw [← hwb]; simp
  have hBb : Below w0.heap.size w0 wb := by rw [← hwb]; exact hB.alloc hB.size _
  have keep : ∀ {w2 : World} {o2' : Option Nat}, Kept g wb o w2 o2' → ∀ i x, (#[Value.int .i64 m.ins, Value.int .i64 m.outs, Value.int .i64 m.start, Value.slice a1 m.inp.length c1, Value.slice a2 m.next.length c2])[i]? = some x → w2.cell? ⟨w.heap.size, i, none⟩ = some x := fun hk i x hx => by
    rw [hk.cell (by omega) (by omega) hfr, ← hwb, World.cell?_alloc_new]; exact hx
  clear hwb
  have hp1 := put_new hr (envHead m) 4 (by omega) (by omega)
  rw [hsb] at hp1
  go_fit hp1
  rintro e w1 ⟨rfl, o1, hw1, hk1⟩
  have f3 := keep hk1 3 _ rfl
  have f4 := keep hk1 4 _ rfl
  by_cases hne : m.next.length = m.inp.length
  · have hne' : ((m.next.length : Nat) : Int) = (m.inp.length : Int) := by omega
    go_wp2_with fail
    clear f3 f4
    go_loopw [31] (fun i wr => ∃ (k : Nat) (z : Bool), k ≤ m.next.length ∧ i = .int .i64 k ∧ (∃ o', Wr wr w0.heap.size g o' (nums ++ (envHead m ++ envRows m k)) z y ∧ Kept g wb o wr o') ∧
        (z = false → x = false ∧ (envHead m ++ envRows m k).any bad = false ∧ ∀ j r, j < k → m.next[j]? = some r → (r.length : Int) = m.outs)) (fun i _ => m.next.length - (RowKit.intOf i).toNat)
    case atStart =>
      refine ⟨0, _, Nat.zero_le _, rfl, ⟨o1, by simpa [envRows] using hw1, hk1⟩, fun e => ?_⟩
      rw [Bool.or_eq_false_iff] at e
      exact ⟨e.1, by simpa [envRows] using e.2, fun j r hj => absurd hj (Nat.not_lt_zero _)⟩
    case round =>
      obtain ⟨k, z, hk, rfl, ⟨o2, hwr, hkp⟩, hz⟩ := hrel
      have hBr : Below w0.heap.size w0 wr := hBb.trans (hkp.below hlow (by omega) hown)
      by_cases hkl : k < m.next.length
      · obtain ⟨b, o3, r, rfl, hb, hrk, hc⟩ := ha.get hkl
        rw [Nat.mul_one] at hc
        obtain ⟨u, d0, hu⟩ := hc
        have c0 := (hBr.cell (p := ⟨b, o3 + k, none⟩) hb).trans d0
        obtain ⟨a3, cap3, rfl, -⟩ := hu.src (g := g) hlow hBr
        have hsrc : ∀ {w'}, Below w0.heap.size w0 w' → PutSrc g w' a3 cap3 r := fun hB' => by
          obtain ⟨a4, cap4, e, h4⟩ := hu.src (g := g) hlow hB'
          injection e with e1 _ e2
          subst e1; subst e2; exact h4
        obtain ⟨b1, o4, rfl, hb1, hin⟩ : ∃ b o, a1 = some ⟨b, o, none⟩ ∧ b < w0.heap.size ∧ ∀ (j : Nat) (x : Int), m.inp[j]? = some x → w0.cell? ⟨b, o + j, none⟩ = some (.int .i64 x) := by
          rcases hi with e | e
          · rw [e] at hne; simp at hne; rw [hne] at hkl; simp at hkl
          · exact e
        obtain ⟨n, hn⟩ : ∃ n, m.inp[k]? = some n := ⟨m.inp[k]'(by omega), by simp [← hne, hkl]⟩
        have hki : k < m.inp.length := by omega
        have hrows := envRows_succ m k
        rw [show m.inp.getD k 0 = n by simp [hn], show m.next.getD k [] = r by simp [hrk]] at hrows
        have hle := envRows_le m (k + 1) m.next.length hkl
        rw [hrows, List.length_append, List.length_cons] at hle
        have hx1 := hwr.c1
        have hx2 := hwr.fz 1
        have hgr := hwr.lt
        obtain ⟨z2, hz2⟩ : ∃ z2, z2 = (z || ((r.length : Int) != m.outs)) := ⟨_, rfl⟩
        have hz3 : z2 = false → x = false ∧ (envHead m ++ envRows m k).any bad = false ∧ ∀ j r, j < k + 1 → m.next[j]? = some r → (r.length : Int) = m.outs := fun e => by
          rw [e] at hz2
          have := Bool.or_eq_false_iff.1 hz2.symm
          obtain ⟨e1, e2, e3⟩ := hz this.1
          refine ⟨e1, e2, fun j r' hj hr' => ?_⟩
          by_cases hjk : j = k
          · subst hjk
            rw [hrk] at hr'; cases hr'
            simpa using this.2
          · exact e3 j r' (by omega) hr'
        have hset := hwr.setWrong z2
        have hks := hkp.trans (Kept.setCell g wr o2 1 (.bool z2))
        have hBs2 : Below w0.heap.size w0 (wr.setCell ⟨g, 1, none⟩ (.bool z2)) := hBr.setCell hlow _
        have f1 := keep hkp 1 _ rfl
        have f3 := keep hks 3 _ rfl
        have hin1 := (hBs2.cell (p := ⟨b1, o4 + k, none⟩) hb1).trans (hin k n hn)
        have hnl : (nums ++ (envHead m ++ envRows m k)).length + r.length + 1 ≤ 10000000000 := by
          simp only [List.length_append]; omega
        have hput := put_new hset [n] 1 (by rw [List.length_singleton]; omega) (by rw [World.size_setCell]; have := hBr.size; omega)
        rw [World.size_setCell] at hput
        clear d0 ha hi hin hw1 hk1 hsrcI hz hwr hkp hset
        rcases (show (z = true ∧ z2 = true) ∨ (z = false ∧ z2 = ((r.length : Int) != m.outs)) by rw [hz2]; cases z <;> simp) with ⟨rfl, rfl⟩ | ⟨rfl, rfl⟩
        all_goals
          clear hz2
          have HZ : Set1 _ := ⟨hz3⟩
          clear hz3
          go_wp2_with fail
          go_fit hput
          rintro e w3 ⟨rfl, o5, hw3, hk3⟩
          have hk13 := hks.trans hk3
          have hB3 := hBb.trans (hk13.below hlow (by omega) hown)
          go_wp2_with fail
          go_fit (put_calls hw3 (hsrc hB3) (by rw [List.length_append, List.length_singleton]; omega) hB3.size)
          rintro e w4 ⟨rfl, o6, hw4, hk4⟩
          have hk14 := hk13.trans hk4
          rw [Bool.or_assoc, ← List.any_append, List.append_assoc, List.singleton_append, List.append_assoc, List.append_assoc, ← hrows] at hw4
          clear hput hw3 hks hk3 hk4 hk13 hin1 f1 f3 c0 hsrc hx1 hx2 keep
          go_wp2
          go_roundw
          case rel =>
            refine ⟨k + 1, _, by omega, by go_num, ⟨o6, hw4, hk14⟩, fun e => ?_⟩
            rw [Bool.or_eq_false_iff] at e
            obtain ⟨e1, e2, e3⟩ := HZ.out e.1
            refine ⟨e1, ?_, e3⟩
            rw [hrows, ← List.append_assoc, List.any_append, e2, e.2]; rfl
          case measure => simp [RowKit.intOf]; omega
      · have hke : k = m.next.length := by omega
        rw [hke] at hwr
        go_wp2
        go_end0
        refine ⟨rfl, o2, z, _, hwr, hkb.trans hkp, ?_, fun e => ?_⟩
        · rw [List.length_append]; exact Nat.le_refl _
        · obtain ⟨e1, e2, e3⟩ := hz e
          rw [hke] at e2 e3
          exact ⟨e1, hne, fun r hr => by
            obtain ⟨j, hj⟩ := List.getElem?_of_mem hr
            exact e3 j r (List.getElem?_eq_some_iff.1 hj).1 hj, rfl, e2⟩
  · have hne' : ¬ ((m.next.length : Nat) : Int) = (m.inp.length : Int) := by omega
    have q1 := hw1.c1
    have q2 := hw1.fz 1
    have hset := hw1.setWrong true
    have hks := hkb.trans (hk1.trans (Kept.setCell g w1 o1 1 (.bool true)))
    go_wp2_with fail
    refine bodyPost_ret (v := .tuple #[]) (by rw [results_none rfl]) rfl ?_
    exact ⟨rfl, o1, true, _, hset, hks, by simp [heh]; omega, fun e => by cases e⟩
end Go.Proofs.YtcedalofcekdkaaGreatDoor
end
