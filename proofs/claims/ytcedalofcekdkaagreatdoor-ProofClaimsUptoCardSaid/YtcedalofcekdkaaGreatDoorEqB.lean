/- Machines and games compared. -/
import Derived.Test.YtcedalofcekdkaaGreatDoorEqA
import Derived.Test.YtcedalofcekdkaaGreatDoorRegionW
import Derived.StillTailTactics
set_option linter.unusedSimpArgs false
set_option linter.unusedVariables false
section
namespace Go.Proofs.YtcedalofcekdkaaGreatDoor
open Go.RowKit

theorem rowsBelow' {w w' : World} {v : Value} {l : List (List Int)} (h : RowsV w v l) (hB : Below w.heap.size w w') : RowsV w' v l := ElemsV.below (R := RowR) (fun h hb hB => h.below hb hB) h hB

theorem two_boxes (w : World) (A B : Array Value) (t : TypeId) : ∃ wb, (w.alloc (Obj.cells A t)).alloc (Obj.cells B t) = wb ∧ Below w.heap.size w wb ∧ wb.heap.size = w.heap.size + 2 ∧
    (∀ w2, Below wb.heap.size wb w2 → ∀ i x, A[i]? = some x → w2.cell? ⟨w.heap.size, i, none⟩ = some x) ∧ (∀ w2, Below wb.heap.size wb w2 → ∀ i x, B[i]? = some x → w2.cell? ⟨w.heap.size + 1, i, none⟩ = some x) := by
  refine ⟨_, rfl, ((Below.refl _ w).alloc (Nat.le_refl _) _).alloc (by simp) _, by simp, fun w2 h2 i x hx => ?_, fun w2 h2 i x hx => ?_⟩
  · rw [h2.cell (p := ⟨w.heap.size, i, none⟩) (by show w.heap.size < _; simp; omega)]
    refine (((Below.refl (w.heap.size + 1) (w.alloc _)).alloc (by simp) _).cell (p := ⟨w.heap.size, i, none⟩) (by show w.heap.size < _; omega)).trans ?_
    rw [World.cell?_alloc_new]; exact hx
  · rw [h2.cell (p := ⟨w.heap.size + 1, i, none⟩) (by show w.heap.size + 1 < _; simp)]
    have := World.cell?_alloc_new (w.alloc (Obj.cells A t)) B t i
    simp only [World.size_alloc] at this
    rw [this]; exact hx

set_option maxHeartbeats 3200000 in
set_option maxRecDepth 1000000 in
theorem ctrl_tell {w : World} {v v2 : Value} {m m2 : MealyD} (hv : MealyV w v m) (hv2 : MealyV w v2 m2) (hb1 : m.out.length ≤ 1000000) (hb2 : ∀ r ∈ m.out, r.length ≤ 1000000) (hb3 : m.next.length ≤ 1000000) (hb4 : ∀ r ∈ m.next, r.length ≤ 1000000) :
    Calls Tryz.prog 24 #[v, v2] w fun e w' => Tells e (m = m2) ∧ Below w.heap.size w w' := by
  obtain ⟨u, t, rfl, hu, ht⟩ := hv
  obtain ⟨u2, t2, rfl, hu2, ht2⟩ := hv2
  obtain ⟨a1, c1, rfl, -⟩ := id hu
  obtain ⟨a2, c2, rfl, -⟩ := id ht
  obtain ⟨a3, c3, rfl, -⟩ := id hu2
  obtain ⟨a4, c4, rfl, -⟩ := id ht2
  go_enter Tryz.func24, Tryz.ntmps24
  by_cases h1 : m.ins = m2.ins
  rotate_left
  · have hn : m ≠ m2 := fun e => h1 (by rw [e])
    have h1' : (m.ins == m2.ins) = false := by simpa using h1
    go_wp2_with fail
    go_ret
    exact ⟨tells_no hn, ((Below.refl _ w).alloc (Nat.le_refl _) _).alloc (by simp) _⟩
  by_cases h2 : m.outs = m2.outs
  rotate_left
  · have hn : m ≠ m2 := fun e => h2 (by rw [e])
    have h2' : (m.outs == m2.outs) = false := by simpa using h2
    go_wp2_with fail
    go_ret
    exact ⟨tells_no hn, ((Below.refl _ w).alloc (Nat.le_refl _) _).alloc (by simp) _⟩
  by_cases h3 : m.start = m2.start
  rotate_left
  · have hn : m ≠ m2 := fun e => h3 (by rw [e])
    have h3' : (m.start == m2.start) = false := by simpa using h3
    go_wp2_with fail
    go_ret
    exact ⟨tells_no hn, ((Below.refl _ w).alloc (Nat.le_refl _) _).alloc (by simp) _⟩
  rw [h1, h2, h3]
  go_wp2_with fail
  obtain ⟨wb, hwb, hBb, hsb, kA, kB⟩ := two_boxes w #[Value.int .i64 m2.ins, Value.int .i64 m2.outs, Value.int .i64 m2.start, Value.slice a1 m.out.length c1, Value.slice a2 m.next.length c2] #[Value.int .i64 m2.ins, Value.int .i64 m2.outs, Value.int .i64 m2.start, Value.slice a3 m2.out.length c3, Value.slice a4 m2.next.length c4] 50
  rw [hwb]
  clear hwb
  go_fit (rows_quiet74 m.out m2.out _ _ wb (rowsBelow' hu hBb) (rowsBelow' hu2 hBb) hb1 hb2)
  rintro e w3 ⟨rfl, hd3⟩
  have x4 := kA w3 hd3.below 4 _ rfl
  have y4 := kB w3 hd3.below 4 _ rfl
  have hB3 := hBb.trans (hd3.below.mono (by omega))
  by_cases h4 : m.out = m2.out
  rotate_left
  · have hn : m ≠ m2 := fun e => h4 (by rw [e])
    rw [decide_eq_false h4]
    go_wp2_with fail
    go_ret
    exact ⟨tells_no hn, hB3⟩
  rw [decide_eq_true h4]
  clear kA kB
  go_wp2_with fail
  go_fit (rows_quiet74 m.next m2.next _ _ w3 (rowsBelow' ht hB3) (rowsBelow' ht2 hB3) hb3 hb4)
  rintro e w4 ⟨rfl, hd4⟩
  have hB4 := hB3.trans (hd4.below.mono hB3.size)
  by_cases h5 : m.next = m2.next
  · have he : m = m2 := by cases m; cases m2; simp only at h1 h2 h3 h4 h5; rw [h1, h2, h3, h4, h5]
    rw [decide_eq_true h5]
    clear h1 h2 h3 h4 h5
    go_wp2_with fail
    go_ret
    exact ⟨tells_yes he, hB4⟩
  · have hn : m ≠ m2 := fun e => h5 (by rw [e])
    rw [decide_eq_false h5]
    clear h1 h2 h3 h4 h5
    go_wp2_with fail
    go_ret
    exact ⟨tells_no hn, hB4⟩
set_option maxHeartbeats 3200000 in
set_option maxRecDepth 1000000 in
theorem env_tell {w : World} {v v2 : Value} {m m2 : MooreD} (hv : MooreV w v m) (hv2 : MooreV w v2 m2) (hb1 : m.inp.length ≤ 1000000) (hb3 : m.next.length ≤ 1000000) (hb4 : ∀ r ∈ m.next, r.length ≤ 1000000) :
    Calls Tryz.prog 25 #[v, v2] w fun e w' => Tells e (m = m2) ∧ Below w.heap.size w w' := by
  obtain ⟨u, t, rfl, hu, ht⟩ := hv
  obtain ⟨u2, t2, rfl, hu2, ht2⟩ := hv2
  obtain ⟨a1, c1, rfl, -, hu⟩ := hu
  obtain ⟨a2, c2, rfl, -⟩ := id ht
  obtain ⟨a3, c3, rfl, -, hu2⟩ := hu2
  obtain ⟨a4, c4, rfl, -⟩ := id ht2
  go_enter Tryz.func25, Tryz.ntmps25
  by_cases h1 : m.ins = m2.ins
  rotate_left
  · have hn : m ≠ m2 := fun e => h1 (by rw [e])
    have h1' : (m.ins == m2.ins) = false := by simpa using h1
    go_wp2_with fail
    go_ret
    exact ⟨tells_no hn, ((Below.refl _ w).alloc (Nat.le_refl _) _).alloc (by simp) _⟩
  by_cases h2 : m.outs = m2.outs
  rotate_left
  · have hn : m ≠ m2 := fun e => h2 (by rw [e])
    have h2' : (m.outs == m2.outs) = false := by simpa using h2
    go_wp2_with fail
    go_ret
    exact ⟨tells_no hn, ((Below.refl _ w).alloc (Nat.le_refl _) _).alloc (by simp) _⟩
  by_cases h3 : m.start = m2.start
  rotate_left
  · have hn : m ≠ m2 := fun e => h3 (by rw [e])
    have h3' : (m.start == m2.start) = false := by simpa using h3
    go_wp2_with fail
    go_ret
    exact ⟨tells_no hn, ((Below.refl _ w).alloc (Nat.le_refl _) _).alloc (by simp) _⟩
  rw [h1, h2, h3]
  go_wp2_with fail
  obtain ⟨wb, hwb, hBb, hsb, kA, kB⟩ := two_boxes w #[Value.int .i64 m2.ins, Value.int .i64 m2.outs, Value.int .i64 m2.start, Value.slice a1 m.inp.length c1, Value.slice a2 m.next.length c2] #[Value.int .i64 m2.ins, Value.int .i64 m2.outs, Value.int .i64 m2.start, Value.slice a3 m2.inp.length c3, Value.slice a4 m2.next.length c4] 52
  rw [hwb]
  clear hwb
  go_fit (ints_quiet75 m.inp m2.inp _ _ _ _ wb (hu.below hBb) (hu2.below hBb) hb1)
  rintro e w3 ⟨rfl, hd3⟩
  have x4 := kA w3 hd3.below 4 _ rfl
  have y4 := kB w3 hd3.below 4 _ rfl
  have hB3 := hBb.trans (hd3.below.mono (by omega))
  by_cases h4 : m.inp = m2.inp
  rotate_left
  · have hn : m ≠ m2 := fun e => h4 (by rw [e])
    rw [decide_eq_false h4]
    go_wp2_with fail
    go_ret
    exact ⟨tells_no hn, hB3⟩
  rw [decide_eq_true h4]
  clear kA kB
  go_wp2_with fail
  go_fit (rows_quiet74 m.next m2.next _ _ w3 (rowsBelow' ht hB3) (rowsBelow' ht2 hB3) hb3 hb4)
  rintro e w4 ⟨rfl, hd4⟩
  have hB4 := hB3.trans (hd4.below.mono hB3.size)
  by_cases h5 : m.next = m2.next
  · have he : m = m2 := by cases m; cases m2; simp only at h1 h2 h3 h4 h5; rw [h1, h2, h3, h4, h5]
    rw [decide_eq_true h5]
    clear h1 h2 h3 h4 h5
    go_wp2_with fail
    go_ret
    exact ⟨tells_yes he, hB4⟩
  · have hn : m ≠ m2 := fun e => h5 (by rw [e])
    rw [decide_eq_false h5]
    clear h1 h2 h3 h4 h5
    go_wp2_with fail
    go_ret
    exact ⟨tells_no hn, hB4⟩
end Go.Proofs.YtcedalofcekdkaaGreatDoor
end

section
namespace Go.Proofs.YtcedalofcekdkaaGreatDoor
open Go.RowKit

def Hid (p : Prop) : Prop := p

set_option maxHeartbeats 3200000 in
set_option maxRecDepth 1000000 in
theorem game_tell {w : World} {v v2 : Value} {m m2 : GameD} (hv : GameV w v m) (hv2 : GameV w v2 m2) (hb1 : m.owner.length ≤ 1000000) (hb2 : m.prio.length ≤ 1000000) (hb3 : m.succ.length ≤ 1000000) (hb4 : ∀ r ∈ m.succ, r.length ≤ 1000000) :
    Calls Tryz.prog 26 #[v, v2] w fun e w' => Tells e (m = m2) ∧ Below w.heap.size w w' := by
  obtain ⟨u1, u2, u3, rfl, ⟨a1, c1, rfl, -, hu1⟩, ⟨a2, c2, rfl, -, hu2⟩, ⟨a3, c3, rfl, hu3⟩⟩ := hv
  obtain ⟨u4, u5, u6, rfl, ⟨a4, c4, rfl, -, hu4⟩, ⟨a5, c5, rfl, -, hu5⟩, ⟨a6, c6, rfl, hu6⟩⟩ := hv2
  go_enter Tryz.func26, Tryz.ntmps26
  go_wp2_with fail
  obtain ⟨wb, hwb, hBb, hsb, kA, kB⟩ := two_boxes w #[Value.slice a1 m.owner.length c1, Value.slice a2 m.prio.length c2, Value.slice a3 m.succ.length c3] #[Value.slice a4 m2.owner.length c4, Value.slice a5 m2.prio.length c5, Value.slice a6 m2.succ.length c6] 39
  rw [hwb]
  clear hwb
  go_fit (ints_quiet18 m.owner m2.owner _ _ _ _ wb (hu1.below hBb) (hu4.below hBb) hb1)
  rintro e w3 ⟨rfl, hd3⟩
  have x1 := kA w3 hd3.below 1 _ rfl
  have y1 := kB w3 hd3.below 1 _ rfl
  have hB3 := hBb.trans (hd3.below.mono (by omega))
  by_cases h1 : m.owner = m2.owner
  rotate_left
  · have hn : m ≠ m2 := fun e => h1 (by rw [e])
    rw [decide_eq_false h1]
    clear h1
    go_wp2_with fail
    go_ret
    exact ⟨tells_no hn, hB3⟩
  rw [decide_eq_true h1]
  have h1h : Hid (m.owner = m2.owner) := h1
  clear h1
  go_wp2_with fail
  go_fit (ints_quiet18 m.prio m2.prio _ _ _ _ w3 (hu2.below hB3) (hu5.below hB3) hb2)
  rintro e w4 ⟨rfl, hd4⟩
  have hB4 := hB3.trans (hd4.below.mono hB3.size)
  have hb4b : Below wb.heap.size wb w4 := hd3.below.trans (hd4.below.mono hd3.below.size)
  by_cases h2 : m.prio = m2.prio
  rotate_left
  · have hn : m ≠ m2 := fun e => h2 (by rw [e])
    rw [decide_eq_false h2]
    clear h2
    go_wp2_with fail
    go_ret
    exact ⟨tells_no hn, hB4⟩
  rw [decide_eq_true h2]
  have h2h : Hid (m.prio = m2.prio) := h2
  have x2 := kA w4 hb4b 2 _ rfl
  have y2 := kB w4 hb4b 2 _ rfl
  clear h2 x1 y1
  by_cases h3 : m.succ.length = m2.succ.length
  rotate_left
  · have hn : m ≠ m2 := fun e => h3 (by rw [e])
    have h3' : ((m.succ.length : Int) == (m2.succ.length : Int)) = false := by simp; omega
    have h3'' : ((m.succ.length : Int) != (m2.succ.length : Int)) = true := by simp; omega
    clear h3
    go_wp2_with fail
    go_ret
    exact ⟨tells_no hn, hB4⟩
  have h3h : Hid (m.succ.length = m2.succ.length) := h3
  rw [← h3] at y2
  clear h3
  go_wp2_with fail
  clear x2 y2
  go_loopw [5] (fun i wr => ∃ k : Nat, k ≤ m.succ.length ∧ i = .int .i64 k ∧ Hid (m.succ.take k = m2.succ.take k) ∧ Below wb.heap.size wb wr) (fun i _ => m.succ.length - (RowKit.intOf i).toNat)
  case atStart => exact ⟨0, Nat.zero_le _, rfl, by show _ = _; simp, hb4b⟩
  case round =>
    obtain ⟨k, hk, rfl, htk, hBr⟩ := hrel
    have x2 := kA wr hBr 2 _ rfl
    have y2 := kB wr hBr 2 _ rfl
    rw [show (#[Value.slice a4 m2.owner.length c4, Value.slice a5 m2.prio.length c5, Value.slice a6 m2.succ.length c6] : Array Value)[2] = Value.slice a6 m.succ.length c6 by show Value.slice a6 m2.succ.length c6 = _; rw [show m.succ.length = m2.succ.length from h3h]] at y2
    have hwr : Below w.heap.size w wr := hBb.trans (hBr.mono (by omega))
    by_cases hkl : k < m.succ.length
    · have hkl2 : k < m2.succ.length := by have : m.succ.length = m2.succ.length := h3h; omega
      obtain ⟨b, o, x, rfl, hb, hxk, hc⟩ := hu3.get hkl
      obtain ⟨b2, o2, y, rfl, hb2, hyk, hc2⟩ := hu6.get hkl2
      rw [Nat.mul_one] at hc hc2
      obtain ⟨u, d1, a7, c7, rfl, -, hu⟩ := hc
      obtain ⟨u2, d2, a8, c8, rfl, -, hu2⟩ := hc2
      have g1 := (hwr.cell (p := ⟨b, o + k, none⟩) hb).trans d1
      have g2 := (hwr.cell (p := ⟨b2, o2 + k, none⟩) hb2).trans d2
      have hBd : Below w.heap.size w wr.drew := ⟨hwr.os, hwr.tape, hwr.output, hwr.size, hwr.block⟩
      have hcall := ints_quiet18 x y a7 a8 c7 c8 wr.drew (hu.below hBd) (hu2.below hBd) (hb4 x (List.mem_of_getElem? hxk))
      clear d1 d2 hkl2
      go_wp2_with fail
      go_still_tail 10, (by kernel_rfl)
      change wpList _ _ _ _ _ wr.drew
      have hBdb : Below wb.heap.size wb wr.drew := ⟨hBr.os, hBr.tape, hBr.output, hBr.size, hBr.block⟩
      clear g1 g2 x2 y2 hwr
      generalize wr.drew = wd at hcall hBd hBdb ⊢
      go_wp2_with fail
      go_fit hcall
      rintro e w5 ⟨rfl, hd5⟩
      have hB5 : Below wb.heap.size wb w5 := hBdb.trans (hd5.below.mono hBdb.size)
      by_cases hxy : x = y
      · rw [decide_eq_true hxy]
        have htk' : Hid (m.succ.take (k + 1) = m2.succ.take (k + 1)) := by
          show m.succ.take (k + 1) = m2.succ.take (k + 1)
          rw [List.take_add_one, List.take_add_one, hxk, hyk, hxy, show m.succ.take k = m2.succ.take k from htk]
        clear hxy
        go_wp2
        go_roundw
        case rel => exact ⟨k + 1, hkl, by go_num, htk', hB5⟩
        case measure => simp [RowKit.intOf]; omega
      · have hne : m ≠ m2 := fun e => by subst e; rw [hxk] at hyk; exact hxy (Option.some.inj hyk)
        rw [decide_eq_false hxy]
        go_wp2
        go_ret
        exact ⟨tells_no hne, hBb.trans (hB5.mono (by omega))⟩
    · have he : m.succ = m2.succ := take_same' h3h (by omega) htk
      have hall : Hid (m = m2) := by
        have e1 : m.owner = m2.owner := h1h
        have e2 : m.prio = m2.prio := h2h
        show m = m2
        cases m; cases m2; simp only at e1 e2 he; rw [e1, e2, he]
      clear he
      go_wp2
      go_ret
      exact ⟨tells_yes hall, hwr⟩
end Go.Proofs.YtcedalofcekdkaaGreatDoor
end
