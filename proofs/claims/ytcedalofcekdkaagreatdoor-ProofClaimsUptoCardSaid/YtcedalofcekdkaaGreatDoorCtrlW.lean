/- The writer: controller. -/
import Derived.Test.YtcedalofcekdkaaGreatDoorWrA
set_option linter.unusedSimpArgs false
set_option linter.unusedVariables false
namespace Go.Proofs.YtcedalofcekdkaaGreatDoor
open Go.RowKit

structure MealyD where
  ins : Int
  outs : Int
  start : Int
  out : List (List Int)
  next : List (List Int)
def MealyV (w : World) (v : Value) (m : MealyD) : Prop := ∃ u t, v = .agg #[.int .i64 m.ins, .int .i64 m.outs, .int .i64 m.start, u, t] ∧ RowsV w u m.out ∧ RowsV w t m.next

theorem Wr.drew {w : World} {B g : Nat} {o : Option Nat} {nums : List Int} {x y : Bool} (h : Wr w B g o nums x y) : Wr w.drew B g o nums x y := ⟨h.low, h.lt, h.row, h.ne, h.c1, h.c2, h.fz⟩
theorem Kept.drew {g : Nat} {w w' : World} {o o' : Option Nat} (h : Kept g w o w' o') : Kept g w o w'.drew o' := ⟨h.os, h.tape, h.output, h.size, h.block, h.own⟩
theorem Kept.drewN {g : Nat} {w w' : World} {o o' : Option Nat} (h : Kept g w o w' o') (n : Nat) : Kept g w o (w'.drewN n) o' := ⟨h.os, h.tape, h.output, h.size, h.block, h.own⟩
theorem Wr.drewN {w : World} {B g : Nat} {o : Option Nat} {nums : List Int} {x y : Bool} (h : Wr w B g o nums x y) (n : Nat) : Wr (w.drewN n) B g o nums x y := ⟨h.low, h.lt, h.row, h.ne, h.c1, h.c2, h.fz⟩

def pairs (a b : List Int) (k : Nat) : List Int := ((List.range k).map fun i => [a.getD i 0, b.getD i 0]).flatten
theorem pairs_succ (a b : List Int) (k : Nat) : pairs a b (k + 1) = pairs a b k ++ [a.getD k 0, b.getD k 0] := by simp [pairs, List.range_succ]
theorem pairs_length (a b : List Int) (k : Nat) : (pairs a b k).length = 2 * k := by
  induction k with
  | zero => rfl
  | succ k ih => rw [pairs_succ, List.length_append, ih]; simp; omega

def ctrlHead (m : MealyD) : List Int := [m.ins, m.outs, m.start, (m.out.length : Int)]
def ctrlRows (m : MealyD) (k : Nat) : List Int := ((List.range k).map fun i => pairs (m.out.getD i []) (m.next.getD i []) (m.out.getD i []).length).flatten
def ctrlEnc (m : MealyD) : List Int := ctrlHead m ++ ctrlRows m m.out.length

theorem ctrlRows_succ (m : MealyD) (k : Nat) : ctrlRows m (k + 1) = ctrlRows m k ++ pairs (m.out.getD k []) (m.next.getD k []) (m.out.getD k []).length := by
  simp [ctrlRows, List.range_succ]

theorem ctrlRows_le (m : MealyD) (k n : Nat) (h : k ≤ n) : (ctrlRows m k).length ≤ (ctrlRows m n).length := by
  induction n with
  | zero => rw [show k = 0 by omega]; exact Nat.le_refl _
  | succ n ih =>
    by_cases e : k = n + 1
    · rw [e]; exact Nat.le_refl _
    · rw [ctrlRows_succ, List.length_append]
      have := ih (by omega); omega

structure CtrlSays (x x' : Bool) (m : MealyD) (nums nums' : List Int) : Prop where
  x : x = false
  len : m.next.length = m.out.length
  rows : ∀ (j : Nat) (a b : List Int), m.out[j]? = some a → m.next[j]? = some b → (a.length : Int) = m.ins ∧ (b.length : Int) = m.ins
  nums : nums' = nums ++ ctrlEnc m
  fit : (ctrlEnc m).any bad = false

set_option maxHeartbeats 3200000 in
set_option maxRecDepth 1000000 in
theorem ctrl_calls {w w0 : World} {g : Nat} {o : Option Nat} {nums : List Int} {x y : Bool} (h : Wr w w0.heap.size g o nums x y) {m : MealyD} {v : Value} (hv : MealyV w0 v m) (hB : Below w0.heap.size w0 w) (hlen : nums.length + m.out.length + (ctrlEnc m).length ≤ 10000000000) :
    Calls Tryz.prog 68 #[.pointer (some ⟨g, 0, none⟩), v] w fun e w' => e = .returned (.tuple #[]) ∧ ∃ o' x' nums', Wr w' w0.heap.size g o' nums' x' y ∧ Kept g w o w' o' ∧ nums'.length ≤ nums.length + (ctrlEnc m).length ∧ (x' = false → CtrlSays x x' m nums nums') := by
  obtain ⟨u, t, rfl, ⟨a1, c1, rfl, ha1⟩, a2, c2, rfl, ha2⟩ := hv
  have hlow := h.low
  have hown : ∀ k, o = some k → w0.heap.size ≤ k := fun k e => (h.own_lt k e).1
  have hfr := h.fresh
  have hgl := h.lt
  have hBs := hB.size
  have heh : (ctrlHead m).length = 4 := rfl
  have hee : (ctrlEnc m).length = 4 + (ctrlRows m m.out.length).length := by simp [ctrlEnc, heh]
  go_enter Tryz.func68, Tryz.ntmps68
  go_wp2_with fail
  generalize hwb : w.alloc (Obj.cells #[Value.int .i64 m.ins, Value.int .i64 m.outs, Value.int .i64 m.start, Value.slice a1 m.out.length c1, Value.slice a2 m.next.length c2] 50) = wb
  have hr : Wr wb w0.heap.size g o nums x y := by rw [← hwb]; exact h.alloc _
  have hkb : Kept g w o wb o := by rw [← hwb]; exact Kept.alloc g w o _
  have hsb : wb.heap.size = w.heap.size + 1 := by rw [← hwb]; simp
  have hBb : Below w0.heap.size w0 wb := by rw [← hwb]; exact hB.alloc hB.size _
  have keep : ∀ {w2 : World} {o2' : Option Nat}, Kept g wb o w2 o2' → ∀ i x, (#[Value.int .i64 m.ins, Value.int .i64 m.outs, Value.int .i64 m.start, Value.slice a1 m.out.length c1, Value.slice a2 m.next.length c2])[i]? = some x → w2.cell? ⟨w.heap.size, i, none⟩ = some x := fun hk i x hx => by
    rw [hk.cell (by omega) (by omega) hfr, ← hwb, World.cell?_alloc_new]; exact hx
  clear hwb
  have hp1 := put_new hr (ctrlHead m) 4 (by omega) (by omega)
  rw [hsb] at hp1
  go_fit hp1
  rintro e w1 ⟨rfl, o1, hw1, hk1⟩
  have f3 := keep hk1 3 _ rfl
  have f4 := keep hk1 4 _ rfl
  by_cases hne : m.next.length = m.out.length
  · have hne' : ((m.next.length : Nat) : Int) = (m.out.length : Int) := by omega
    go_wp2_with fail
    clear f3 f4 hp1
    go_loopw [32] (fun i wr => ∃ (k : Nat), k ≤ m.out.length ∧ i = .int .i64 k ∧ (∃ o', Wr wr w0.heap.size g o' (nums ++ (ctrlHead m ++ ctrlRows m k)) (x || (ctrlHead m ++ ctrlRows m k).any bad) y ∧ Kept g wb o wr o') ∧
        (∀ (j : Nat) (a b : List Int), j < k → m.out[j]? = some a → m.next[j]? = some b → (a.length : Int) = m.ins ∧ (b.length : Int) = m.ins)) (fun i _ => m.out.length - (RowKit.intOf i).toNat)
    case atStart =>
      exact ⟨0, Nat.zero_le _, rfl, ⟨o1, by simpa [ctrlRows] using hw1, hk1⟩, fun j a b hj => absurd hj (Nat.not_lt_zero _)⟩
    case round =>
      obtain ⟨k, hk, rfl, ⟨o2, hwr, hkp⟩, hcond⟩ := hrel
      have hBr : Below w0.heap.size w0 wr := hBb.trans (hkp.below hlow (by omega) hown)
      by_cases hkl : k < m.out.length
      · obtain ⟨b, o3, r, rfl, hb, hrk, hc⟩ := ha1.get hkl
        obtain ⟨b2, o4, r2, rfl, hb2, hrk2, hc2⟩ := ha2.get (by rw [hne]; exact hkl)
        rw [Nat.mul_one] at hc hc2
        obtain ⟨u, d0, a3, cap3, rfl, -, hu⟩ := hc
        obtain ⟨u2, d2, a4, cap4, rfl, -, hu2⟩ := hc2
        have c0 := (hBr.cell (p := ⟨b, o3 + k, none⟩) hb).trans d0
        have c2' := (hBr.cell (p := ⟨b2, o4 + k, none⟩) hb2).trans d2
        have hrows := ctrlRows_succ m k
        rw [show m.out.getD k [] = r by simp [hrk], show m.next.getD k [] = r2 by simp [hrk2]] at hrows
        have hle := ctrlRows_le m (k + 1) m.out.length hkl
        rw [hrows, List.length_append, pairs_length] at hle
        have hkl2 : k < m.next.length := by omega
        have f0 := keep hkp 0 _ rfl
        have f4 := keep hkp 4 _ rfl
        have hx1 := hwr.c1
        have hx2 := hwr.fz 1
        have hset := hwr.setWrong true
        have hks := hkb.trans (hkp.trans (Kept.setCell g wr o2 1 (.bool true)))
        by_cases hA : (r.length : Int) = m.ins
        · by_cases hB2 : (r2.length : Int) = m.ins
          · clear hset hks
            have hwd := hwr.drew
            have hkd := hkp.drew
            have hnx : ∀ q, q < r.length → ∃ n n2, r[q]? = some n ∧ r2[q]? = some n2 ∧ ∃ bb oo bb2 oo2, a3 = some ⟨bb, oo, none⟩ ∧ a4 = some ⟨bb2, oo2, none⟩ ∧ ∀ {w'}, Below w0.heap.size w0 w' → w'.cell? ⟨bb, oo + q, none⟩ = some (.int .i64 n) ∧ w'.cell? ⟨bb2, oo2 + q, none⟩ = some (.int .i64 n2) := fun q hq => by
              have hq2 : q < r2.length := by omega
              rcases hu with e | ⟨bb, oo, e1, hb1, hc1⟩
              · subst e; simp at hq
              rcases hu2 with e | ⟨bb2, oo2, e2, hb3, hc3⟩
              · subst e; simp at hq2
              exact ⟨r[q], r2[q], by simp [hq], by simp [hq2], bb, oo, bb2, oo2, e1, e2, fun hB' => ⟨(hB'.cell (p := ⟨bb, oo + q, none⟩) hb1).trans (hc1 q _ (by simp [hq])), (hB'.cell (p := ⟨bb2, oo2 + q, none⟩) hb3).trans (hc3 q _ (by simp [hq2]))⟩⟩
            go_wp2_with fail
            go_region
            all_goals (try go_wp2)
            clear f0 f4 hx1 hx2 c0 c2'
            go_loopw [58] (fun i wq => ∃ q : Nat, q ≤ r.length ∧ i = .int .i64 q ∧ ∃ o', Wr wq w0.heap.size g o' (nums ++ ((ctrlHead m ++ ctrlRows m k) ++ pairs r r2 q)) (x || ((ctrlHead m ++ ctrlRows m k) ++ pairs r r2 q).any bad) y ∧ Kept g wb o wq o') (fun i _ => r.length - (RowKit.intOf i).toNat)
            case atStart => exact ⟨0, Nat.zero_le _, rfl, o2, by simpa [pairs] using hwd, hkd⟩
            case round =>
              obtain ⟨q, hq, rfl, o5, hwq, hkq⟩ := hrel
              by_cases hql : q < r.length
              · obtain ⟨n, n2, hn, hn2, bb, oo, bb2, oo2, rfl, rfl, hcc⟩ := hnx q hql
                have hBq : Below w0.heap.size w0 wr := hBb.trans (hkq.below hlow (by omega) hown)
                obtain ⟨g1, g2⟩ := hcc hBq
                have f4 := keep hkq 4 _ rfl
                have d2' := (hBq.cell (p := ⟨b2, o4 + k, none⟩) hb2).trans d2
                have hsz := hkq.size
                go_wp2_with fail
                have hp2 := put_new hwq.drew [n, n2] 2 (by simp only [List.length_append, pairs_length, heh, List.length_cons, List.length_nil]; omega) (by show w0.heap.size ≤ wr.heap.size; omega)
                have hps : r.getD q 0 = n := by simp [hn]
                have hps2 : r2.getD q 0 = n2 := by simp [hn2]
                go_region_with (go_at_call 65; go_fit hp2; rintro e w2 ⟨rfl, o6, hw2, hk2⟩)
                all_goals (try go_wp2)
                all_goals (
                  refine ⟨⟨q + 1, hql, by simp, o6, ?_, (hkq.trans (Kept.drew (Kept.refl g wr o5))).trans hk2⟩, by simp [RowKit.intOf]; omega⟩
                  rw [pairs_succ, hps, hps2]
                  have e1 : nums ++ (ctrlHead m ++ ctrlRows m k ++ pairs r r2 q) ++ [n, n2] = nums ++ (ctrlHead m ++ ctrlRows m k ++ (pairs r r2 q ++ [n, n2])) := by simp only [List.append_assoc]
                  have e2 : ((x || (ctrlHead m ++ ctrlRows m k ++ pairs r r2 q).any bad) || [n, n2].any bad) = (x || (ctrlHead m ++ ctrlRows m k ++ (pairs r r2 q ++ [n, n2])).any bad) := by simp only [List.any_append, Bool.or_assoc]
                  rw [← e1, ← e2]; exact hw2)
              · have hqe : q = r.length := by omega
                rw [hqe] at hwq
                go_wp2
                refine ⟨⟨k + 1, hkl, by simp, ⟨o5, ?_, hkq⟩, ?_⟩, by simp [RowKit.intOf]; omega⟩
                · rw [hrows, ← List.append_assoc (ctrlHead m)]; exact hwq
                · intro j a b hj h1 h2
                  by_cases hjk : j = k
                  · rw [hjk] at h1 h2; rw [hrk] at h1; rw [hrk2] at h2; cases h1; cases h2; exact ⟨hA, hB2⟩
                  · exact hcond j a b (by omega) h1 h2
          · go_wp2_with fail
            go_region
            all_goals (try go_wp2)
            refine bodyPost_ret (v := .tuple #[]) (by rw [results_none rfl]) rfl ?_
            exact ⟨rfl, o2, true, _, hset.drew, hks.drew, by simp only [List.length_append]; omega, fun e => by cases e⟩
        · have hA1 : ((r.length : Int) != m.ins) = true := by simpa using hA
          have hA2 : ((r.length : Int) == m.ins) = false := by simpa using hA
          go_wp2_with fail
          go_region
          all_goals (try go_wp2)
          refine bodyPost_ret (v := .tuple #[]) (by rw [results_none rfl]) rfl ?_
          exact ⟨rfl, o2, true, _, hset.drew, hks.drew, by simp only [List.length_append]; omega, fun e => by cases e⟩
      · have hke : k = m.out.length := by omega
        rw [hke] at hwr
        go_wp2
        go_end0
        refine ⟨rfl, o2, _, _, hwr, hkb.trans hkp, ?_, fun e => ?_⟩
        · rw [List.length_append]; exact Nat.le_refl _
        · rw [Bool.or_eq_false_iff] at e
          exact ⟨e.1, hne, fun j a b h1 h2 => hcond j a b (by rw [hke]; exact (List.getElem?_eq_some_iff.1 h1).1) h1 h2, rfl, e.2⟩
  · have hne' : ¬ ((m.next.length : Nat) : Int) = (m.out.length : Int) := by omega
    have q1 := hw1.c1
    have q2 := hw1.fz 1
    have hset := hw1.setWrong true
    have hks := hkb.trans (hk1.trans (Kept.setCell g w1 o1 1 (.bool true)))
    go_wp2_with fail
    refine bodyPost_ret (v := .tuple #[]) (by rw [results_none rfl]) rfl ?_
    exact ⟨rfl, o1, true, _, hset, hks, by simp [heh]; omega, fun e => by cases e⟩
end Go.Proofs.YtcedalofcekdkaaGreatDoor
