/- Formulas compared. -/
import Derived.Test.YtcedalofcekdkaaGreatDoorEqA
import Derived.Test.YtcedalofcekdkaaGreatDoorEmpA
set_option linter.unusedSimpArgs false
set_option linter.unusedVariables false
section
namespace Go.Proofs.YtcedalofcekdkaaGreatDoor
open Go.RowKit

set_option maxHeartbeats 1600000 in
theorem refints_calls (a b : Int) (w : World) :
    Calls Tryz.prog 141 #[.int .i64 a, .int .i64 b] w fun e w' => e = .returned (.int .i64 (cmpI a b)) ∧ w' = w := by
  unfold cmpI
  go_enter Tryz.func141, Tryz.ntmps141
  by_cases h : a < b
  · go_wp2
    go_ret
    exact ⟨rfl, rfl⟩
  · by_cases h2 : b < a
    · go_wp2
      go_ret
      exact ⟨rfl, rfl⟩
    · go_wp2
      go_ret
      exact ⟨rfl, rfl⟩

theorem cmpI_ne {a b : Int} (h : a ≠ b) : ∃ d, cmpI a b = d ∧ d ≠ 0 := ⟨_, rfl, fun e => h ((cmpI_zero a b).1 e)⟩
theorem cmpI_eq (a : Int) : cmpI a a = 0 := (cmpI_zero a a).2 rfl

set_option maxHeartbeats 6400000 in
set_option maxRecDepth 1000000 in
theorem cmpF_calls {w0 : World} : ∀ (s : Nat) (f g : FT), sz [f] ≤ s → sz [f] ≤ 10000000 → ∀ (w : World) (v v2 : Value), FormV w0 v f → FormV w0 v2 g → Below w0.heap.size w0 w →
    Calls Tryz.prog 73 #[v, v2] w fun e w' => (∃ d : Int, e = .returned (.int .i64 d) ∧ (d = 0 ↔ f = g)) ∧ Below w.heap.size w w'
  | 0, .node op name val bound args, _, hs, _ => by simp [sz] at hs
  | s + 1, .node op name val bound args, .node op2 name2 val2 bound2 args2, hs, hbig => by
    intro w v v2 hv hv2 hB
    obtain ⟨u, rfl, a, cap, rfl, ha⟩ := hv
    obtain ⟨u2, rfl, a2, cap2, rfl, ha2⟩ := hv2
    rw [sz_node] at hs hbig
    have hal := length_sz args
    go_enter Tryz.func73, Tryz.ntmps73
    go_wp2_with fail
    generalize hwb : (w.alloc (Obj.cells #[Value.int .i64 op, Value.string name, Value.int .i64 val, Value.int .i64 bound, Value.slice a args.length cap] 48)).alloc (Obj.cells #[Value.int .i64 op2, Value.string name2, Value.int .i64 val2, Value.int .i64 bound2, Value.slice a2 args2.length cap2] 48) = wb
    have hBb : Below w.heap.size w wb := by rw [← hwb]; exact ((Below.refl _ w).alloc (Nat.le_refl _) _).alloc (by simp) _
    have hsb : wb.heap.size = w.heap.size + 2 := by rw [← hwb]; simp
    have hcA : ∀ i x, (#[Value.int .i64 op, Value.string name, Value.int .i64 val, Value.int .i64 bound, Value.slice a args.length cap])[i]? = some x → ∀ w2, Below wb.heap.size wb w2 → w2.cell? ⟨w.heap.size, i, none⟩ = some x := fun i x hx w2 h2 => by
      rw [h2.cell (p := ⟨w.heap.size, i, none⟩) (by show w.heap.size < _; omega), ← hwb]
      refine (((Below.refl (w.heap.size + 1) (w.alloc _)).alloc (by simp) _).cell (p := ⟨w.heap.size, i, none⟩) (by show w.heap.size < _; omega)).trans ?_
      rw [World.cell?_alloc_new]; exact hx
    have hcB : ∀ i x, (#[Value.int .i64 op2, Value.string name2, Value.int .i64 val2, Value.int .i64 bound2, Value.slice a2 args2.length cap2])[i]? = some x → ∀ w2, Below wb.heap.size wb w2 → w2.cell? ⟨w.heap.size + 1, i, none⟩ = some x := fun i x hx w2 h2 => by
      rw [h2.cell (p := ⟨w.heap.size + 1, i, none⟩) (by show w.heap.size + 1 < _; omega), ← hwb]
      have := World.cell?_alloc_new (w.alloc (Obj.cells #[Value.int .i64 op, Value.string name, Value.int .i64 val, Value.int .i64 bound, Value.slice a args.length cap] 48)) #[Value.int .i64 op2, Value.string name2, Value.int .i64 val2, Value.int .i64 bound2, Value.slice a2 args2.length cap2] 48 i
      simp only [World.size_alloc] at this
      rw [this]; exact hx
    clear hwb
    have x1 := hcA 1 _ rfl wb (Below.refl _ _)
    have x2 := hcA 2 _ rfl wb (Below.refl _ _)
    have x3 := hcA 3 _ rfl wb (Below.refl _ _)
    have x4 := hcA 4 _ rfl wb (Below.refl _ _)
    have y1 := hcB 1 _ rfl wb (Below.refl _ _)
    have y2 := hcB 2 _ rfl wb (Below.refl _ _)
    have y3 := hcB 3 _ rfl wb (Below.refl _ _)
    have y4 := hcB 4 _ rfl wb (Below.refl _ _)
    dsimp only [List.getElem_toArray, List.getElem_cons_zero, List.getElem_cons_succ] at x1 x2 x3 x4 y1 y2 y3 y4
    have hne : ∀ {p : Prop}, (FT.node op name val bound args = FT.node op2 name2 val2 bound2 args2 → p) → ¬ p → ∀ d : Int, d ≠ 0 → (d = 0 ↔ FT.node op name val bound args = FT.node op2 name2 val2 bound2 args2) := fun h1 h2 d hd => ⟨fun e => absurd e hd, fun e => absurd (h1 e) h2⟩
    have ci := refints_calls op op2 wb
    by_cases h1 : op = op2
    rotate_left
    · obtain ⟨d, e0, hd⟩ := cmpI_ne h1
      rw [e0] at ci
      go_fit ci
      rintro e w2 ⟨rfl, hw2⟩
      obtain rfl : wb = w2 := hw2.symm
      have hfin := hne (fun e => (FT.node.injEq .. ▸ e).1) h1 d hd
      clear hne
      go_wp2_with fail
      go_loopw [5, 6] (fun c i wr => c = .int .i64 d ∧ i = .int .i64 0 ∧ wr = wb) (fun _ _ _ => 0)
      case atStart => exact ⟨rfl, rfl, rfl⟩
      case round =>
        obtain ⟨rfl, rfl, rfl⟩ := hrel
        by_cases hl0 : 0 < args.length
        · go_wp2_with fail
          go_ret
          exact ⟨⟨d, rfl, hfin⟩, hBb⟩
        · go_wp2_with fail
          go_ret
          exact ⟨⟨d, rfl, hfin⟩, hBb⟩
    subst h1
    rw [cmpI_eq] at ci
    go_fit ci
    rintro e w2 ⟨rfl, hw2⟩
    obtain rfl : wb = w2 := hw2.symm
    clear ci
    by_cases q : name.toList = name2.toList
    rotate_left
    · have qn : name ≠ name2 := fun e => q (by rw [e])
      have qb : (name.toList == name2.toList) = false := by simpa using q
      have qc : (name.toList != name2.toList) = true := by simpa using q
      cases hls : Op.bytesLess name.toList name2.toList
      · skip
        have hfin := hne (fun e => (FT.node.injEq .. ▸ e).2.1) qn 1 (by decide)
        clear hne
        go_wp2_with fail
        go_loopw [5, 6] (fun c i wr => c = .int .i64 1 ∧ i = .int .i64 0 ∧ wr = wb) (fun _ _ _ => 0)
        case atStart => exact ⟨rfl, rfl, rfl⟩
        case round =>
          obtain ⟨rfl, rfl, rfl⟩ := hrel
          by_cases hl0 : 0 < args.length
          · go_wp2_with fail
            go_ret
            exact ⟨⟨1, rfl, hfin⟩, hBb⟩
          · go_wp2_with fail
            go_ret
            exact ⟨⟨1, rfl, hfin⟩, hBb⟩
      · skip
        have hfin := hne (fun e => (FT.node.injEq .. ▸ e).2.1) qn (-1) (by decide)
        clear hne
        go_wp2_with fail
        go_loopw [5, 6] (fun c i wr => c = .int .i64 (-1) ∧ i = .int .i64 0 ∧ wr = wb) (fun _ _ _ => 0)
        case atStart => exact ⟨rfl, rfl, rfl⟩
        case round =>
          obtain ⟨rfl, rfl, rfl⟩ := hrel
          by_cases hl0 : 0 < args.length
          · go_wp2_with fail
            go_ret
            exact ⟨⟨(-1), rfl, hfin⟩, hBb⟩
          · go_wp2_with fail
            go_ret
            exact ⟨⟨(-1), rfl, hfin⟩, hBb⟩
    have hname := bytes_ext q
    subst hname
    clear q
    have ci := refints_calls val val2 wb
    go_wp2_with fail
    by_cases h3 : val = val2
    rotate_left
    · obtain ⟨d, e0, hd⟩ := cmpI_ne h3
      rw [e0] at ci
      clear e0
      go_fit ci
      rintro e w2 ⟨rfl, hw2⟩
      obtain rfl : wb = w2 := hw2.symm
      clear ci
      have hfin := hne (fun e => (FT.node.injEq .. ▸ e).2.2.1) h3 d hd
      clear hne
      go_wp2_with fail
      go_loopw [5, 6] (fun c i wr => c = .int .i64 d ∧ i = .int .i64 0 ∧ wr = wb) (fun _ _ _ => 0)
      case atStart => exact ⟨rfl, rfl, rfl⟩
      case round =>
        obtain ⟨rfl, rfl, rfl⟩ := hrel
        by_cases hl0 : 0 < args.length
        · go_wp2_with fail
          go_ret
          exact ⟨⟨d, rfl, hfin⟩, hBb⟩
        · go_wp2_with fail
          go_ret
          exact ⟨⟨d, rfl, hfin⟩, hBb⟩
    subst h3
    rw [cmpI_eq] at ci
    go_fit ci
    rintro e w2 ⟨rfl, hw2⟩
    obtain rfl : wb = w2 := hw2.symm
    clear ci
    have ci := refints_calls bound bound2 wb
    go_wp2_with fail
    by_cases h4 : bound = bound2
    rotate_left
    · obtain ⟨d, e0, hd⟩ := cmpI_ne h4
      rw [e0] at ci
      clear e0
      go_fit ci
      rintro e w2 ⟨rfl, hw2⟩
      obtain rfl : wb = w2 := hw2.symm
      clear ci
      have hfin := hne (fun e => (FT.node.injEq .. ▸ e).2.2.2.1) h4 d hd
      clear hne
      go_wp2_with fail
      go_loopw [5, 6] (fun c i wr => c = .int .i64 d ∧ i = .int .i64 0 ∧ wr = wb) (fun _ _ _ => 0)
      case atStart => exact ⟨rfl, rfl, rfl⟩
      case round =>
        obtain ⟨rfl, rfl, rfl⟩ := hrel
        by_cases hl0 : 0 < args.length
        · go_wp2_with fail
          go_ret
          exact ⟨⟨d, rfl, hfin⟩, hBb⟩
        · go_wp2_with fail
          go_ret
          exact ⟨⟨d, rfl, hfin⟩, hBb⟩
    subst h4
    rw [cmpI_eq] at ci
    go_fit ci
    rintro e w2 ⟨rfl, hw2⟩
    obtain rfl : wb = w2 := hw2.symm
    clear ci
    have ci := refints_calls (args.length : Int) (args2.length : Int) wb
    go_wp2_with fail
    by_cases h5 : (args.length : Int) = (args2.length : Int)
    rotate_left
    · obtain ⟨d, e0, hd⟩ := cmpI_ne h5
      rw [e0] at ci
      clear e0
      go_fit ci
      rintro e w2 ⟨rfl, hw2⟩
      obtain rfl : wb = w2 := hw2.symm
      clear ci
      have hfin := hne (fun e => congrArg (fun l : List FT => (l.length : Int)) (FT.node.injEq .. ▸ e).2.2.2.2) h5 d hd
      clear hne
      go_wp2_with fail
      go_loopw [5, 6] (fun c i wr => c = .int .i64 d ∧ i = .int .i64 0 ∧ wr = wb) (fun _ _ _ => 0)
      case atStart => exact ⟨rfl, rfl, rfl⟩
      case round =>
        obtain ⟨rfl, rfl, rfl⟩ := hrel
        by_cases hl0 : 0 < args.length
        · go_wp2_with fail
          go_ret
          exact ⟨⟨d, rfl, hfin⟩, hBb⟩
        · go_wp2_with fail
          go_ret
          exact ⟨⟨d, rfl, hfin⟩, hBb⟩
    have hl : args.length = args2.length := by omega
    rw [show cmpI (args.length : Int) (args2.length : Int) = 0 from (cmpI_zero _ _).2 h5] at ci
    go_fit ci
    rintro e w2 ⟨rfl, hw2⟩
    obtain rfl : wb = w2 := hw2.symm
    clear ci h5 hne
    have hend : ∀ d : Int, (d = 0 ↔ args = args2) → (d = 0 ↔ FT.node op name val bound args = FT.node op name val bound args2) := fun d h => by rw [h]; simp only [FT.node.injEq, true_and]
    have htl := fun (k : Nat) (hk : k = args.length) h => take_same' (xs := args) (ys := args2) (k := k) hl hk h
    have hlt : ∀ {k}, k < args.length → k < args2.length := fun h => by omega
    clear hl x1 x2 x3 x4 y1 y2 y3 y4
    go_wp2_with fail
    go_loopw [5, 6] (fun c i wr => ∃ (k : Nat) (d : Int), k ≤ args.length ∧ i = .int .i64 k ∧ c = .int .i64 d ∧ (d = 0 → args.take k = args2.take k) ∧ (d ≠ 0 → args ≠ args2) ∧ Below wb.heap.size wb wr) (fun c i _ => args.length - (RowKit.intOf i).toNat)
    case atStart => exact ⟨0, 0, Nat.zero_le _, rfl, rfl, fun _ => by simp, fun h => absurd rfl h, Below.refl _ _⟩
    case round =>
      obtain ⟨k, d, hk, rfl, rfl, htk, hnn, hBr⟩ := hrel
      have x4 := hcA 4 _ rfl wr hBr
      have y4 := hcB 4 _ rfl wr hBr
      dsimp only [List.getElem_toArray, List.getElem_cons_zero, List.getElem_cons_succ] at x4 y4
      have hwr : Below w.heap.size w wr := hBb.trans (hBr.mono (by omega))
      by_cases hkl : k < args.length
      · by_cases hd : d = 0
        · subst hd
          have hkl2 := hlt hkl
          have htk0 := htk rfl
          obtain ⟨b, o, op', name', val', bound', args', u', rfl, hb, hj, hu, d0, d1, d2, d3, d4⟩ := FormsV.get ha hkl
          obtain ⟨b2, o2, op2', name2', val2', bound2', args2', u2', rfl, hb2, hj2, hu2, e0, e1, e2, e3, e4⟩ := FormsV.get ha2 hkl2
          have hB0 : Below w0.heap.size w0 wr := hB.trans (hwr.mono hB.size)
          have c0 := (hB0.cell (p := ⟨b, o + k * 5, none⟩) hb).trans d0
          have c1 := (hB0.cell (p := ⟨b, o + k * 5 + 1, none⟩) hb).trans d1
          have c2 := (hB0.cell (p := ⟨b, o + k * 5 + 2, none⟩) hb).trans d2
          have c3 := (hB0.cell (p := ⟨b, o + k * 5 + 3, none⟩) hb).trans d3
          have c4 := (hB0.cell (p := ⟨b, o + k * 5 + 4, none⟩) hb).trans d4
          have f0 := (hB0.cell (p := ⟨b2, o2 + k * 5, none⟩) hb2).trans e0
          have f1 := (hB0.cell (p := ⟨b2, o2 + k * 5 + 1, none⟩) hb2).trans e1
          have f2 := (hB0.cell (p := ⟨b2, o2 + k * 5 + 2, none⟩) hb2).trans e2
          have f3 := (hB0.cell (p := ⟨b2, o2 + k * 5 + 3, none⟩) hb2).trans e3
          have f4 := (hB0.cell (p := ⟨b2, o2 + k * 5 + 4, none⟩) hb2).trans e4
          obtain ⟨a', cap', rfl, hu'⟩ := hu
          obtain ⟨a2', cap2', rfl, hu2'⟩ := hu2
          have hsz := sz_get hj
          have hrec := cmpF_calls (w0 := w0) s (.node op' name' val' bound' args') (.node op2' name2' val2' bound2' args2') (by omega) (by omega) wr.drew _ _ ⟨_, rfl, a', cap', rfl, hu'⟩ ⟨_, rfl, a2', cap2', rfl, hu2'⟩ ⟨hB0.os, hB0.tape, hB0.output, hB0.size, hB0.block⟩
          clear d0 d1 d2 d3 d4 e0 e1 e2 e3 e4 hcA hcB hlt
          go_wp2_with fail
          go_still_tail 10, (by kernel_rfl)
          change wpList _ _ _ _ _ wr.drew
          have hBd : Below wb.heap.size wb wr.drew := ⟨hBr.os, hBr.tape, hBr.output, hBr.size, hBr.block⟩
          clear c0 c1 c2 c3 c4 f0 f1 f2 f3 f4 x4 y4 hwr
          generalize wr.drew = wd at hrec hBd ⊢
          go_wp2_with fail
          go_fit hrec
          rintro e w3 ⟨⟨d2, rfl, hd2⟩, hb3⟩
          clear hrec
          have hB3 : Below wb.heap.size wb w3 := hBd.trans (hb3.mono hBd.size)
          have g1 : d2 = 0 → args.take (k + 1) = args2.take (k + 1) := fun h => by rw [List.take_add_one, List.take_add_one, hj, hj2, hd2.1 h]; exact congrArg (· ++ _) htk0
          have g2 : d2 ≠ 0 → args ≠ args2 := fun h e => by
            subst e
            rw [hj] at hj2
            exact h (hd2.2 (Option.some.inj hj2))
          clear hd2 htk htk0 hnn htl hend
          go_wp2
          go_roundw
          case rel => exact ⟨k + 1, d2, hkl, by go_num, rfl, g1, g2, hB3⟩
          case measure => simp [RowKit.intOf]; omega
        · have hdd : (d == 0) = false := by simpa using hd
          have hnot := hend d ⟨fun e => absurd e hd, fun e => absurd e (hnn hd)⟩
          clear hend
          go_wp2_with fail
          go_ret
          exact ⟨⟨d, rfl, hnot⟩, hwr⟩
      · have hfin := hend d ⟨fun e => htl k (by omega) (htk e), fun e => Classical.byContradiction fun h => hnn h e⟩
        clear hend htk hnn htl
        go_wp2_with fail
        go_ret
        exact ⟨⟨d, rfl, hfin⟩, hwr⟩
end Go.Proofs.YtcedalofcekdkaaGreatDoor
end

section
namespace Go.Proofs.YtcedalofcekdkaaGreatDoor
open Go.RowKit

set_option maxHeartbeats 1600000 in
set_option maxRecDepth 1000000 in
theorem form_tell {w0 w : World} {v v2 : Value} {f g : FT} (hv : FormV w0 v f) (hv2 : FormV w0 v2 g) (hB : Below w0.heap.size w0 w) (hbig : sz [f] ≤ 10000000) :
    Calls Tryz.prog 22 #[v, v2] w fun e w' => Tells e (f = g) ∧ Below w.heap.size w w' := by
  have h1 := hv
  have h2 := hv2
  cases f with
  | node op name val bound args =>
    cases g with
    | node op2 name2 val2 bound2 args2 =>
      obtain ⟨u, rfl, a, cap, rfl, -⟩ := hv
      obtain ⟨u2, rfl, a2, cap2, rfl, -⟩ := hv2
      have hBO : ∀ O O2, Below w0.heap.size w0 ((w.alloc O).alloc O2) := fun O O2 => (hB.alloc hB.size O).alloc (by simp; have := hB.size; omega) O2
      have hBw : ∀ O O2, Below w.heap.size w ((w.alloc O).alloc O2) := fun O O2 => ((Below.refl _ w).alloc (Nat.le_refl _) _).alloc (by simp) _
      have hcall := fun O O2 => cmpF_calls (w0 := w0) _ _ _ (Nat.le_refl _) hbig ((w.alloc O).alloc O2) _ _ h1 h2 (hBO O O2)
      have hA : ∀ O O2 i x, (w.alloc O).cell? ⟨w.heap.size, i, none⟩ = some x → ((w.alloc O).alloc O2).cell? ⟨w.heap.size, i, none⟩ = some x := fun O O2 i x h =>
        (((Below.refl (w.heap.size + 1) (w.alloc O)).alloc (by simp) O2).cell (p := ⟨w.heap.size, i, none⟩) (by show w.heap.size < _; omega)).trans h
      go_enter Tryz.func22, Tryz.ntmps22
      go_wp2_with fail
      go_fit (hcall _ _)
      rintro e w3 ⟨⟨d, rfl, hd⟩, hb⟩
      have hend := (hBw _ _).trans (hb.mono (by simp; omega))
      by_cases h : d = 0
      · have hy := hd.1 h
        subst h
        clear hd hcall hBO hA hBw
        go_wp2
        go_ret
        exact ⟨tells_yes hy, hend⟩
      · have hn : ¬ _ := fun e => h (hd.2 e)
        have hd0 : (d == 0) = false := by simpa using h
        clear hd hcall hBO hA hBw
        go_wp2
        go_ret
        exact ⟨tells_no hn, hend⟩

set_option maxHeartbeats 1600000 in
set_option maxRecDepth 1000000 in
theorem forms_tell {w : World} {v v2 : Value} {xs ys : List FT} (hx : FormsV w v xs) (hy : FormsV w v2 ys) (hbig : sz xs ≤ 10000000) :
    Calls Tryz.prog 23 #[v, v2] w fun e w' => Tells e (xs = ys) ∧ Below w.heap.size w w' := by
  obtain ⟨a, c, rfl, ha⟩ := hx
  obtain ⟨a2, c2, rfl, ha2⟩ := hy
  have hlen := length_sz xs
  go_enter Tryz.func23, Tryz.ntmps23
  by_cases hl : xs.length = ys.length
  · have htl := fun (k : Nat) (hk : k = xs.length) h => take_same' (xs := xs) (ys := ys) (k := k) hl hk h
    have hlt : ∀ {k}, k < ys.length → k < xs.length := fun h => by omega
    rw [hl] at hlen ⊢
    go_wp2
    have hlx : ∀ {k}, k ≤ ys.length → ¬ k < ys.length → k = xs.length := fun h1 h2 => by omega
    clear hl
    go_loopw [5] (fun i wr => ∃ k : Nat, k ≤ ys.length ∧ i = .int .i64 k ∧ xs.take k = ys.take k ∧ Below w.heap.size w wr)
      (fun i _ => ys.length - (RowKit.intOf i).toNat)
    case atStart => exact ⟨0, Nat.zero_le _, rfl, by simp, Below.refl _ _⟩
    case round =>
      obtain ⟨k, hk, rfl, htk, hBr⟩ := hrel
      by_cases hkl : k < ys.length
      · obtain ⟨b, o, op', name', val', bound', args', u', rfl, hb, hj, hu, d0, d1, d2, d3, d4⟩ := FormsV.get ha (hlt hkl)
        obtain ⟨b2, o2, op2', name2', val2', bound2', args2', u2', rfl, hb2, hj2, hu2, e0, e1, e2, e3, e4⟩ := FormsV.get ha2 hkl
        have hkl2 := hlt hkl
        have c0 := (hBr.cell (p := ⟨b, o + k * 5, none⟩) hb).trans d0
        have c1 := (hBr.cell (p := ⟨b, o + k * 5 + 1, none⟩) hb).trans d1
        have c2 := (hBr.cell (p := ⟨b, o + k * 5 + 2, none⟩) hb).trans d2
        have c3 := (hBr.cell (p := ⟨b, o + k * 5 + 3, none⟩) hb).trans d3
        have c4 := (hBr.cell (p := ⟨b, o + k * 5 + 4, none⟩) hb).trans d4
        have f0 := (hBr.cell (p := ⟨b2, o2 + k * 5, none⟩) hb2).trans e0
        have f1 := (hBr.cell (p := ⟨b2, o2 + k * 5 + 1, none⟩) hb2).trans e1
        have f2 := (hBr.cell (p := ⟨b2, o2 + k * 5 + 2, none⟩) hb2).trans e2
        have f3 := (hBr.cell (p := ⟨b2, o2 + k * 5 + 3, none⟩) hb2).trans e3
        have f4 := (hBr.cell (p := ⟨b2, o2 + k * 5 + 4, none⟩) hb2).trans e4
        obtain ⟨a', cap', rfl, hu'⟩ := hu
        obtain ⟨a2', cap2', rfl, hu2'⟩ := hu2
        have hsz := sz_get hj
        have hrec := form_tell (w0 := w) (w := wr.drew) (f := .node op' name' val' bound' args') (g := .node op2' name2' val2' bound2' args2') ⟨_, rfl, a', cap', rfl, hu'⟩ ⟨_, rfl, a2', cap2', rfl, hu2'⟩ ⟨hBr.os, hBr.tape, hBr.output, hBr.size, hBr.block⟩ (by omega)
        clear d0 d1 d2 d3 d4 e0 e1 e2 e3 e4 hlt
        go_wp2_with fail
        go_still_tail 8, (by kernel_rfl)
        change wpList _ _ _ _ _ wr.drew
        have hBd : Below w.heap.size w wr.drew := ⟨hBr.os, hBr.tape, hBr.output, hBr.size, hBr.block⟩
        clear c0 c1 c2 c3 c4 f0 f1 f2 f3 f4
        generalize wr.drew = wd at hrec hBd ⊢
        go_wp2_with fail
        go_fit hrec
        rintro e w3 ⟨⟨d2, rfl, hd2⟩, hb3⟩
        clear hrec
        have hB3 : Below w.heap.size w w3 := hBd.trans (hb3.mono hBd.size)
        cases d2
        · have hne : xs ≠ ys := fun e => by
            subst e
            rw [hj] at hj2
            exact absurd (hd2.2 (Option.some.inj hj2)) (by decide)
          clear hd2 htk htl hlx
          go_wp2
          go_ret
          exact ⟨tells_no hne, hB3⟩
        · have g1 : xs.take (k + 1) = ys.take (k + 1) := by
            rw [List.take_add_one, List.take_add_one, hj, hj2, hd2.1 rfl]; exact congrArg (· ++ _) htk
          clear hd2 htk htl hlx
          go_wp2
          go_roundw
          case rel => exact ⟨k + 1, hkl, by go_num, g1, hB3⟩
          case measure => simp [RowKit.intOf]; omega
      · have he := htl k (hlx hk hkl) htk
        clear htl hlx hlt
        go_wp2
        go_ret
        exact ⟨tells_yes he, hBr⟩
  · have hne : xs ≠ ys := fun e => hl (by rw [e])
    have hz : ¬ ((xs.length : Int) = (ys.length : Int)) := by omega
    go_wp2
    go_ret
    exact ⟨tells_no hne, Below.refl _ _⟩
end Go.Proofs.YtcedalofcekdkaaGreatDoor
end
