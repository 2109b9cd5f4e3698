/- The writer: region. -/
import Derived.Test.YtcedalofcekdkaaGreatDoorCtrlW
set_option linter.unusedSimpArgs false
set_option linter.unusedVariables false
namespace Go.Proofs.YtcedalofcekdkaaGreatDoor
open Go.RowKit

structure GameD where
  owner : List Int
  prio : List Int
  succ : List (List Int)
def GameV (w : World) (v : Value) (m : GameD) : Prop := ∃ a b c, v = .agg #[a, b, c] ∧ IntsV w a m.owner ∧ IntsV w b m.prio ∧ RowsV w c m.succ

def gameRow (m : GameD) (i : Nat) : List Int := [m.owner.getD i 0, m.prio.getD i 0] ++ listEnc (m.succ.getD i [])
def gameRows (m : GameD) (k : Nat) : List Int := ((List.range k).map (gameRow m)).flatten
def regionEnc (m : GameD) (l : List (List Int)) : List Int := ((m.owner.length : Int) :: gameRows m m.owner.length) ++ (l.map listEnc).flatten

theorem gameRows_succ (m : GameD) (k : Nat) : gameRows m (k + 1) = gameRows m k ++ gameRow m k := by
  simp [gameRows, List.range_succ]

theorem gameRows_le (m : GameD) (k n : Nat) (h : k ≤ n) : (gameRows m k).length ≤ (gameRows m n).length := by
  induction n with
  | zero => rw [show k = 0 by omega]; exact Nat.le_refl _
  | succ n ih =>
    by_cases e : k = n + 1
    · rw [e]; exact Nat.le_refl _
    · rw [gameRows_succ, List.length_append]
      have := ih (by omega); omega

structure RegionSays (x x' : Bool) (m : GameD) (l : List (List Int)) (nums nums' : List Int) : Prop where
  x : x = false
  prio : m.prio.length = m.owner.length
  succ : m.succ.length = m.owner.length
  len : l.length = m.owner.length
  nums : nums' = nums ++ regionEnc m l
  fit : (regionEnc m l).any bad = false

set_option maxHeartbeats 3200000 in
set_option maxRecDepth 1000000 in
theorem region_calls {w w0 : World} {g : Nat} {o : Option Nat} {nums : List Int} {x y : Bool} (h : Wr w w0.heap.size g o nums x y) {m : GameD} {l : List (List Int)} {v v2 : Value} (hv : GameV w0 v m) (hv2 : RowsV w0 v2 l) (hB : Below w0.heap.size w0 w) (hlen : nums.length + m.owner.length + l.length + (regionEnc m l).length ≤ 10000000000) :
    Calls Tryz.prog 71 #[.pointer (some ⟨g, 0, none⟩), v, v2] w fun e w' => e = .returned (.tuple #[]) ∧ ∃ o' x' nums', Wr w' w0.heap.size g o' nums' x' y ∧ Kept g w o w' o' ∧ nums'.length ≤ nums.length + (regionEnc m l).length ∧ (x' = false → RegionSays x x' m l nums nums') := by
  obtain ⟨u1, u2, u3, rfl, hu1, hu2, a3, c3, rfl, ha3⟩ := hv
  obtain ⟨a4, c4, rfl, ha4⟩ := hv2
  have hlow := h.low
  have hown : ∀ k, o = some k → w0.heap.size ≤ k := fun k e => (h.own_lt k e).1
  have hfr := h.fresh
  have hgl := h.lt
  have hBs := hB.size
  have hee : (regionEnc m l).length = 1 + (gameRows m m.owner.length).length + ((l.map listEnc).flatten).length := by simp [regionEnc]; omega
  obtain ⟨a1, c1, rfl, -, ha1⟩ := hu1
  obtain ⟨a2, c2, rfl, -, ha2⟩ := hu2
  go_enter Tryz.func71, Tryz.ntmps71
  go_wp2_with fail
  generalize hwb : w.alloc (Obj.cells #[Value.slice a1 m.owner.length c1, Value.slice a2 m.prio.length c2, Value.slice a3 m.succ.length c3] 39) = wb
  have hr : Wr wb w0.heap.size g o nums x y := by rw [← hwb]; exact h.alloc _
  have hkb : Kept g w o wb o := by rw [← hwb]; exact Kept.alloc g w o _
  have hsb : wb.heap.size = w.heap.size + 1 := by rw [← hwb]; simp
  have hBb : Below w0.heap.size w0 wb := by rw [← hwb]; exact hB.alloc hB.size _
  have keep : ∀ {w2 : World} {o2' : Option Nat}, Kept g wb o w2 o2' → ∀ i x, (#[Value.slice a1 m.owner.length c1, Value.slice a2 m.prio.length c2, Value.slice a3 m.succ.length c3])[i]? = some x → w2.cell? ⟨w.heap.size, i, none⟩ = some x := fun hk i x hx => by
    rw [hk.cell (by omega) (by omega) hfr, ← hwb, World.cell?_alloc_new]; exact hx
  clear hwb
  have hp1 := put_new hr [(m.owner.length : Int)] 1 (by simp; omega) (by omega)
  rw [hsb] at hp1
  go_fit hp1
  rintro e w1 ⟨rfl, o1, hw1, hk1⟩
  have f1 := keep hk1 1 _ rfl
  have f2 := keep hk1 2 _ rfl
  have q1 := hw1.c1
  have q2 := hw1.fz 1
  have hset := hw1.setWrong true
  have hks := hkb.trans (hk1.trans (Kept.setCell g w1 o1 1 (.bool true)))
  have hbadend : ∀ {P : Prop}, (true = false → P) := fun e => by cases e
  by_cases hP : m.prio.length = m.owner.length
  · have hP' : ((m.prio.length : Nat) : Int) = (m.owner.length : Int) := by omega
    by_cases hS : m.succ.length = m.owner.length
    · have hS' : ((m.succ.length : Nat) : Int) = (m.owner.length : Int) := by omega
      by_cases hM : l.length = m.owner.length
      · have hM' : ((l.length : Nat) : Int) = (m.owner.length : Int) := by omega
        clear hset hks q1 q2 hp1
        go_wp2_with fail
        clear f1 f2
        go_loopw [39] (fun i wr => ∃ (k : Nat), k ≤ m.owner.length ∧ i = .int .i64 k ∧ ∃ o', Wr wr w0.heap.size g o' (nums ++ ((m.owner.length : Int) :: gameRows m k)) (x || ((m.owner.length : Int) :: gameRows m k).any bad) y ∧ Kept g wb o wr o') (fun i _ => m.owner.length - (RowKit.intOf i).toNat)
        case atStart => exact ⟨0, Nat.zero_le _, rfl, o1, by simpa [gameRows] using hw1, hk1⟩
        case round =>
          obtain ⟨k, hk, rfl, o2, hwr, hkp⟩ := hrel
          have hBr : Below w0.heap.size w0 wr := hBb.trans (hkp.below hlow (by omega) hown)
          by_cases hkl : k < m.owner.length
          · obtain ⟨b3, o3, r, rfl, hb3, hrk, hc3⟩ := ha3.get (by rw [hS]; exact hkl)
            rw [Nat.mul_one] at hc3
            obtain ⟨u, d3, hu⟩ := hc3
            obtain ⟨a5, cap5, rfl, -⟩ := hu.src (g := g) hlow hBr
            rcases ha1 with e | ⟨b1, o5, rfl, hb1, hc1⟩
            · rw [e] at hkl; simp at hkl
            rcases ha2 with e | ⟨b2, o6, rfl, hb2, hc2⟩
            · rw [e] at hP; simp at hP; omega
            obtain ⟨n1, hn1⟩ : ∃ n1, m.owner[k]? = some n1 := ⟨m.owner[k], by simp [hkl]⟩
            obtain ⟨n2, hn2⟩ : ∃ n2, m.prio[k]? = some n2 := ⟨m.prio[k]'(by omega), by simp [hP, hkl]⟩
            have d1 := (hBr.cell (p := ⟨b1, o5 + k, none⟩) hb1).trans (hc1 k _ hn1)
            have d2 := (hBr.cell (p := ⟨b2, o6 + k, none⟩) hb2).trans (hc2 k _ hn2)
            have f0 := keep hkp 0 _ rfl
            have f1 := keep hkp 1 _ rfl
            have hsrc : ∀ {w'}, Below w0.heap.size w0 w' → PutSrc g w' a5 cap5 r := fun hB' => by
              obtain ⟨a3, cap3, e, h3⟩ := hu.src (g := g) hlow hB'
              injection e with e1 _ e2
              subst e1; subst e2; exact h3
            have hrows := gameRows_succ m k
            have hgr : gameRow m k = [n1, n2] ++ listEnc r := by simp [gameRow, hn1, hn2, hrk]
            rw [hgr] at hrows
            have hle := gameRows_le m (k + 1) m.owner.length hkl
            rw [hrows, List.length_append, List.length_append] at hle
            simp only [List.length_cons, List.length_nil, listEnc] at hle
            have hkS : k < m.succ.length := by omega
            have hkP : k < m.prio.length := by omega
            have hsz := hkp.size
            have hp2 := put_new hwr.drew [n1, n2] 2 (by simp only [List.length_append, List.length_cons, List.length_nil]; omega) (by show w0.heap.size ≤ wr.heap.size; omega)
            go_wp2_with fail
            go_region_with (go_at_call 65; go_fit hp2; rintro e w2 ⟨rfl, o7, hw2, hk2⟩)
            all_goals (
              have hk3 := (hkp.trans (Kept.drew (Kept.refl g wr o2))).trans hk2
              have hB3 : Below w0.heap.size w0 w2 := hBb.trans (hk3.below hlow (by omega) hown)
              have f2 := keep hk3 2 _ rfl
              have d4 := (hB3.cell (p := ⟨b3, o3 + k, none⟩) hb3).trans d3
              clear f0 f1 d1 d2 hp2
              go_wp2_with fail
              go_fit (list_calls hw2 (hsrc hB3) (by simp only [List.length_append, List.length_cons, List.length_nil]; omega) hB3.size)
              rintro e w4 ⟨rfl, o8, hw4, hk4⟩
              clear f2 d4
              go_wp2
              refine ⟨⟨k + 1, hkl, by simp, o8, ?_, hk3.trans hk4⟩, by simp [RowKit.intOf]; omega⟩
              rw [hrows]
              have e1 : nums ++ (m.owner.length : Int) :: gameRows m k ++ [n1, n2] ++ listEnc r = nums ++ (m.owner.length : Int) :: (gameRows m k ++ ([n1, n2] ++ listEnc r)) := by simp only [List.append_assoc, List.cons_append]
              have e2 : ((x || ((m.owner.length : Int) :: gameRows m k).any bad) || [n1, n2].any bad || (listEnc r).any bad) = (x || ((m.owner.length : Int) :: (gameRows m k ++ ([n1, n2] ++ listEnc r))).any bad) := by simp only [List.any_append, List.any_cons, List.any_nil, Bool.or_assoc, Bool.or_false]
              rw [← e1, ← e2]; exact hw4)
          · have hke : k = m.owner.length := by omega
            subst hke
            clear ha1 ha2 ha3 hw1 hk1 hr hk hkl
            go_wp2_with fail
            go_loopw [65] (fun i wr => ∃ (k : Nat), k ≤ l.length ∧ i = .int .i64 k ∧ ∃ o', Wr wr w0.heap.size g o' (nums ++ (((m.owner.length : Int) :: gameRows m m.owner.length) ++ ((l.take k).map listEnc).flatten)) (x || (((m.owner.length : Int) :: gameRows m m.owner.length) ++ ((l.take k).map listEnc).flatten).any bad) y ∧ Kept g wb o wr o') (fun i _ => l.length - (RowKit.intOf i).toNat)
            case atStart => exact ⟨0, Nat.zero_le _, rfl, o2, by simpa using hwr, hkp⟩
            case round =>
              obtain ⟨q, hq, rfl, o9, hwq, hkq⟩ := hrel
              have hBq : Below w0.heap.size w0 wr := hBb.trans (hkq.below hlow (by omega) hown)
              by_cases hql : q < l.length
              · obtain ⟨b4, o10, r, rfl, hb4, hrk, hc4⟩ := ha4.get hql
                rw [Nat.mul_one] at hc4
                obtain ⟨u, d4, hu⟩ := hc4
                obtain ⟨a5, cap5, rfl, -⟩ := hu.src (g := g) hlow hBq
                have d5 := (hBq.cell (p := ⟨b4, o10 + q, none⟩) hb4).trans d4
                have hsrc : PutSrc g wr a5 cap5 r := by
                  obtain ⟨a3, cap3, e, h3⟩ := hu.src (g := g) hlow hBq
                  injection e with e1 _ e2
                  subst e1; subst e2; exact h3
                have hfl := flat_le listEnc l q r hrk
                have hfs := flat_succ listEnc l q r hrk
                go_wp2_with fail
                go_fit (list_calls hwq hsrc (by simp only [List.length_append, List.length_cons, List.length_nil, listEnc] at hfl ⊢; omega) hBq.size)
                rintro e w4 ⟨rfl, o8, hw4, hk4⟩
                go_wp2
                go_roundw
                case measure => simp [RowKit.intOf]; omega
                refine ⟨q + 1, hql, by go_num, o8, ?_, hkq.trans hk4⟩
                rw [hfs]
                have e1 : nums ++ ((m.owner.length : Int) :: gameRows m m.owner.length ++ ((l.take q).map listEnc).flatten) ++ listEnc r = nums ++ ((m.owner.length : Int) :: gameRows m m.owner.length ++ (((l.take q).map listEnc).flatten ++ listEnc r)) := by simp only [List.append_assoc]
                have e2 : ((x || ((m.owner.length : Int) :: gameRows m m.owner.length ++ ((l.take q).map listEnc).flatten).any bad) || (listEnc r).any bad) = (x || ((m.owner.length : Int) :: gameRows m m.owner.length ++ (((l.take q).map listEnc).flatten ++ listEnc r)).any bad) := by simp only [List.any_append, Bool.or_assoc]
                rw [← e1, ← e2]; exact hw4
              · have hqe : q = l.length := by omega
                rw [hqe, List.take_length] at hwq
                go_wp2
                go_end0
                refine ⟨rfl, o9, _, _, hwq, hkb.trans hkq, ?_, fun e => ?_⟩
                · rw [List.length_append]; exact Nat.le_refl _
                · rw [Bool.or_eq_false_iff] at e
                  exact ⟨e.1, hP, hS, hM, rfl, e.2⟩
      · have hM' : ¬ ((l.length : Nat) : Int) = (m.owner.length : Int) := by omega
        go_wp2_with fail
        refine bodyPost_ret (v := .tuple #[]) (by rw [results_none rfl]) rfl ?_
        exact ⟨rfl, o1, true, _, hset, hks, by simp; omega, hbadend⟩
    · have hS' : ¬ ((m.succ.length : Nat) : Int) = (m.owner.length : Int) := by omega
      go_wp2_with fail
      refine bodyPost_ret (v := .tuple #[]) (by rw [results_none rfl]) rfl ?_
      exact ⟨rfl, o1, true, _, hset, hks, by simp; omega, hbadend⟩
  · have hP' : ¬ ((m.prio.length : Nat) : Int) = (m.owner.length : Int) := by omega
    go_wp2_with fail
    refine bodyPost_ret (v := .tuple #[]) (by rw [results_none rfl]) rfl ?_
    exact ⟨rfl, o1, true, _, hset, hks, by simp; omega, hbadend⟩
end Go.Proofs.YtcedalofcekdkaaGreatDoor
