/- SmallClaim returns some bool at every claim. -/
import Derived.Test.YtcedalofcekdkaaGreatDoorMemA
import Derived.Test.YtcedalofcekdkaaGreatDoorRegionW
set_option linter.unusedSimpArgs false
set_option linter.unusedVariables false
section
namespace Go.Proofs.YtcedalofcekdkaaGreatDoor
open Go.RowKit

theorem rowsBelow {w w' : World} {v : Value} {l : List (List Int)} (h : RowsV w v l) (hB : Below w.heap.size w w') : RowsV w' v l := ElemsV.below (R := RowR) (fun h hb hB => h.below hb hB) h hB
theorem sigsBelow {w w' : World} {v : Value} {l : List Sig} (h : SigsV w v l) (hB : Below w.heap.size w w') : SigsV w' v l := ElemsV.below (R := SigR) (fun h hb hB => h.below hb hB) h hB
theorem spotsBelow {w w' : World} {v : Value} {l : List SpotD} (h : SpotsV w v l) (hB : Below w.heap.size w w') : SpotsV w' v l := ElemsV.below (R := SpotR) (fun h hb hB => h.below hb hB) h hB

set_option maxHeartbeats 1600000 in
set_option maxRecDepth 1000000 in
theorem few_bool {w : World} {v : Value} {m : MealyD} (h : MealyV w v m) : Calls Tryz.prog 59 #[v, .int .i64 20] w fun e w' => SomeBool w e w' := by
  obtain ⟨u, t, rfl, hu, ht⟩ := h
  have hu0 := hu
  have ht0 := ht
  obtain ⟨a1, c1, rfl, -⟩ := hu
  obtain ⟨a2, c2, rfl, -⟩ := ht
  go_enter Tryz.func59, Tryz.ntmps59
  go_wp2_with fail
  generalize hwb : w.alloc (Obj.cells #[Value.int .i64 m.ins, Value.int .i64 m.outs, Value.int .i64 m.start, Value.slice a1 m.out.length c1, Value.slice a2 m.next.length c2] 50) = wb
  have hBb : Below w.heap.size w wb := by rw [← hwb]; exact (Below.refl _ w).alloc (Nat.le_refl _) _
  have keep : ∀ {w2 : World}, Below wb.heap.size wb w2 → ∀ i x, (#[Value.int .i64 m.ins, Value.int .i64 m.outs, Value.int .i64 m.start, Value.slice a1 m.out.length c1, Value.slice a2 m.next.length c2])[i]? = some x → w2.cell? ⟨w.heap.size, i, none⟩ = some x := fun hk i x hx => by
    rw [hk.cell (by rw [← hwb]; simp), ← hwb, World.cell?_alloc_new]; exact hx
  clear hwb
  go_fit (fewRows_bool 20 (by omega) (rowsBelow hu0 hBb))
  rintro e w2 ⟨⟨b, rfl⟩, hB2⟩
  have f4 := keep hB2 4 _ rfl
  have hB3 := hBb.trans (hB2.mono hBb.size)
  cases b
  · go_wp2_with fail
    go_ret
    exact ⟨⟨_, rfl⟩, hB3⟩
  · go_wp2_with fail
    go_fit (fewRows_bool 20 (by omega) (rowsBelow ht0 hB3))
    rintro e w3 ⟨⟨b, rfl⟩, hB4⟩
    go_wp2_with fail
    go_ret
    exact ⟨⟨_, rfl⟩, hB3.trans (hB4.mono hB3.size)⟩

set_option maxHeartbeats 1600000 in
set_option maxRecDepth 1000000 in
theorem fewEnv_bool {w : World} {v : Value} {m : MooreD} (h : MooreV w v m) : Calls Tryz.prog 60 #[v, .int .i64 20] w fun e w' => SomeBool w e w' := by
  obtain ⟨u, t, rfl, hu, ht⟩ := h
  have ht0 := ht
  obtain ⟨a1, c1, rfl, -⟩ := hu
  obtain ⟨a2, c2, rfl, -⟩ := ht
  go_enter Tryz.func60, Tryz.ntmps60
  by_cases hl : (m.inp.length : Int) ≤ 20
  · go_wp2_with fail
    go_fit (fewRows_bool 20 (by omega) (rowsBelow ht0 ((Below.refl _ w).alloc (Nat.le_refl _) _)))
    rintro e w3 ⟨⟨b, rfl⟩, hB4⟩
    go_wp2_with fail
    go_ret
    exact ⟨⟨_, rfl⟩, ((Below.refl _ w).alloc (Nat.le_refl _) _).trans (hB4.mono (by simp))⟩
  · go_wp2_with fail
    go_ret
    exact ⟨⟨_, rfl⟩, ((Below.refl _ w).alloc (Nat.le_refl _) _)⟩
end Go.Proofs.YtcedalofcekdkaaGreatDoor
end

section
namespace Go.Proofs.YtcedalofcekdkaaGreatDoor
open Go.RowKit

structure ClaimD where
  kind : Int
  sigs : List Sig
  form : FT
  ctrl : MealyD
  env : MooreD
  spots : List SpotD
  game : GameD
  measure : List (List Int)
  letters : List Int
  residuals : List FT

def ClaimCells (kind : Int) (s : Value) (op : Int) (name : ByteArray) (val bound : Int) (fa : Value) (m : MealyD) (mo mn : Value) (e : MooreD) (ei en sp go gp gs me le re : Value) : Array Value :=
  #[.int .i64 kind, s, .int .i64 op, .string name, .int .i64 val, .int .i64 bound, fa, .int .i64 m.ins, .int .i64 m.outs, .int .i64 m.start, mo, mn, .int .i64 e.ins, .int .i64 e.outs, .int .i64 e.start, ei, en, sp, go, gp, gs, me, le, re]

def ClaimC (w : World) (cs : Array Value) (c : ClaimD) : Prop :=
  ∃ (s : Value) (op : Int) (name : ByteArray) (val bound : Int) (args : List FT) (fa mo mn ei en sp go gp gs me le re : Value), c.form = .node op name val bound args ∧ cs = ClaimCells c.kind s op name val bound fa c.ctrl mo mn c.env ei en sp go gp gs me le re ∧
    SigsV w s c.sigs ∧ FormsV w fa args ∧ RowsV w mo c.ctrl.out ∧ RowsV w mn c.ctrl.next ∧ IntsV w ei c.env.inp ∧ RowsV w en c.env.next ∧ SpotsV w sp c.spots ∧ IntsV w go c.game.owner ∧ IntsV w gp c.game.prio ∧ RowsV w gs c.game.succ ∧ RowsV w me c.measure ∧ IntsV w le c.letters ∧ FormsV w re c.residuals
def ClaimV (w : World) (v : Value) (c : ClaimD) : Prop := ∃ cs, v = .agg cs ∧ ClaimC w cs c

theorem ClaimC.below {w w' : World} {cs : Array Value} {c : ClaimD} (h : ClaimC w cs c) (hB : Below w.heap.size w w') : ClaimC w' cs c := by
  obtain ⟨s, op, name, val, bound, args, fa, mo, mn, ei, en, sp, go, gp, gs, me, le, re, h0, h00, h1, h2, h3, h4, h5, h6, h7, h8, h9, h10, h11, h12, h13⟩ := h
  exact ⟨s, op, name, val, bound, args, fa, mo, mn, ei, en, sp, go, gp, gs, me, le, re, h0, h00, sigsBelow h1 hB, h2.below hB, rowsBelow h3 hB, rowsBelow h4 hB, h5.below hB, rowsBelow h6 hB, spotsBelow h7 hB, h8.below hB, h9.below hB, rowsBelow h10 hB, rowsBelow h11 hB, h12.below hB, h13.below hB⟩
theorem ClaimV.below {w w' : World} {v : Value} {c : ClaimD} (h : ClaimV w v c) (hB : Below w.heap.size w w') : ClaimV w' v c := by
  obtain ⟨cs, e, h⟩ := h
  exact ⟨cs, e, h.below hB⟩

set_option maxHeartbeats 6400000 in
set_option maxRecDepth 1000000 in
theorem smallClaim_bool {w : World} {v : Value} {c : ClaimD} (h : ClaimV w v c) (hf : sz [c.form] ≤ 10000000) (hr : sz c.residuals ≤ 10000000) (hlen : c.spots.length ≤ 1000000000) : Calls Tryz.prog 19 #[v] w fun e w' => SomeBool w e w' := by
  obtain ⟨cs, rfl, s, op, name, val, bound, args, fa, mo, mn, ei, en, sp, go, gp, gs, me, le, re, h0, rfl, h1, h2, h3, h4, h5, h6, h7, h8, h9, h10, h11, h12, h13⟩ := h
  rw [h0] at hf
  obtain ⟨asg, cs1, rfl, -⟩ := id h1
  obtain ⟨af, cf, rfl, -⟩ := id h2
  obtain ⟨amo, cmo, rfl, -⟩ := id h3
  obtain ⟨amn, cmn, rfl, -⟩ := id h4
  obtain ⟨aei, cei, rfl, -, -⟩ := id h5
  obtain ⟨aen, cen, rfl, -⟩ := id h6
  obtain ⟨asp, csp, rfl, hsp⟩ := id h7
  obtain ⟨ago, cgo, rfl, -, -⟩ := id h8
  obtain ⟨agp, cgp, rfl, -, -⟩ := id h9
  obtain ⟨ags, cgs, rfl, -⟩ := id h10
  obtain ⟨ame, cme, rfl, -⟩ := id h11
  obtain ⟨ale, cle, rfl, -, -⟩ := id h12
  obtain ⟨are, cre, rfl, -⟩ := id h13
  unfold ClaimCells
  go_enter Tryz.func19, Tryz.ntmps19
  go_wp2_with fail
  generalize hwb : w.alloc (Obj.cells #[Value.int .i64 c.kind, Value.slice asg c.sigs.length cs1, Value.int .i64 op, Value.string name, Value.int .i64 val, Value.int .i64 bound, Value.slice af args.length cf, Value.int .i64 c.ctrl.ins, Value.int .i64 c.ctrl.outs, Value.int .i64 c.ctrl.start, Value.slice amo c.ctrl.out.length cmo, Value.slice amn c.ctrl.next.length cmn, Value.int .i64 c.env.ins, Value.int .i64 c.env.outs, Value.int .i64 c.env.start, Value.slice aei c.env.inp.length cei, Value.slice aen c.env.next.length cen, Value.slice asp c.spots.length csp, Value.slice ago c.game.owner.length cgo, Value.slice agp c.game.prio.length cgp, Value.slice ags c.game.succ.length cgs, Value.slice ame c.measure.length cme, Value.slice ale c.letters.length cle, Value.slice are c.residuals.length cre] 55) = wb
  have hBb : Below w.heap.size w wb := by rw [← hwb]; exact (Below.refl _ w).alloc (Nat.le_refl _) _
  have hbs : w.heap.size < wb.heap.size := by rw [← hwb]; simp
  have keep : ∀ {w2 : World}, Below wb.heap.size wb w2 → ∀ i x, (#[Value.int .i64 c.kind, Value.slice asg c.sigs.length cs1, Value.int .i64 op, Value.string name, Value.int .i64 val, Value.int .i64 bound, Value.slice af args.length cf, Value.int .i64 c.ctrl.ins, Value.int .i64 c.ctrl.outs, Value.int .i64 c.ctrl.start, Value.slice amo c.ctrl.out.length cmo, Value.slice amn c.ctrl.next.length cmn, Value.int .i64 c.env.ins, Value.int .i64 c.env.outs, Value.int .i64 c.env.start, Value.slice aei c.env.inp.length cei, Value.slice aen c.env.next.length cen, Value.slice asp c.spots.length csp, Value.slice ago c.game.owner.length cgo, Value.slice agp c.game.prio.length cgp, Value.slice ags c.game.succ.length cgs, Value.slice ame c.measure.length cme, Value.slice ale c.letters.length cle, Value.slice are c.residuals.length cre])[i]? = some x → w2.cell? ⟨w.heap.size, i, none⟩ = some x := fun hk i x hx => by
    rw [hk.cell (p := ⟨w.heap.size, i, none⟩) hbs, ← hwb, World.cell?_alloc_new]; exact hx
  clear hwb
  have hb0 : Below wb.heap.size wb wb := Below.refl _ _
  go_fit (small_sigs (sigsBelow h1 hBb))
  rintro e w1 ⟨⟨b, rfl⟩, hB⟩
  have hb1 : Below wb.heap.size wb w1 := hb0.trans (hB.mono hb0.size)
  clear hB
  have he1 : Below w.heap.size w w1 := hBb.trans (hb1.mono (Nat.le_of_lt hbs))
  have f2 := keep hb1 2 _ rfl
  have f3 := keep hb1 3 _ rfl
  have f4 := keep hb1 4 _ rfl
  have f5 := keep hb1 5 _ rfl
  have f6 := keep hb1 6 _ rfl
  cases b
  · go_wp2_with fail
    go_ret
    exact ⟨⟨_, rfl⟩, he1⟩
  go_wp2_with fail
  clear f2 f3 f4 f5 f6
  go_fit (small_any (.node op name val bound args) 450 hf ⟨_, rfl, h2.below he1⟩)
  rintro e w2 ⟨⟨b, rfl⟩, hB⟩
  have hb2 : Below wb.heap.size wb w2 := hb1.trans (hB.mono hb1.size)
  clear hB
  have he2 : Below w.heap.size w w2 := hBb.trans (hb2.mono (Nat.le_of_lt hbs))
  have f7 := keep hb2 7 _ rfl
  have f8 := keep hb2 8 _ rfl
  have f9 := keep hb2 9 _ rfl
  have f10 := keep hb2 10 _ rfl
  have f11 := keep hb2 11 _ rfl
  cases b
  · go_wp2_with fail
    go_ret
    exact ⟨⟨_, rfl⟩, he2⟩
  go_wp2_with fail
  clear f7 f8 f9 f10 f11
  go_fit (few_bool (m := c.ctrl) ⟨_, _, rfl, rowsBelow h3 he2, rowsBelow h4 he2⟩)
  rintro e w3 ⟨⟨b, rfl⟩, hB⟩
  have hb3 : Below wb.heap.size wb w3 := hb2.trans (hB.mono hb2.size)
  clear hB
  have he3 : Below w.heap.size w w3 := hBb.trans (hb3.mono (Nat.le_of_lt hbs))
  have f12 := keep hb3 12 _ rfl
  have f13 := keep hb3 13 _ rfl
  have f14 := keep hb3 14 _ rfl
  have f15 := keep hb3 15 _ rfl
  have f16 := keep hb3 16 _ rfl
  cases b
  · go_wp2_with fail
    go_ret
    exact ⟨⟨_, rfl⟩, he3⟩
  go_wp2_with fail
  clear f12 f13 f14 f15 f16
  go_fit (fewEnv_bool (m := c.env) ⟨_, _, rfl, h5.below he3, rowsBelow h6 he3⟩)
  rintro e w4 ⟨⟨b, rfl⟩, hB⟩
  have hb4 : Below wb.heap.size wb w4 := hb3.trans (hB.mono hb3.size)
  clear hB
  have he4 : Below w.heap.size w w4 := hBb.trans (hb4.mono (Nat.le_of_lt hbs))
  have f17 := keep hb4 17 _ rfl
  have f18 := keep hb4 18 _ rfl
  have f19 := keep hb4 19 _ rfl
  have f20 := keep hb4 20 _ rfl
  cases b
  · go_wp2_with fail
    go_ret
    exact ⟨⟨_, rfl⟩, he4⟩
  by_cases g1 : (60 : Int) < (c.spots.length : Int)
  · go_wp2_with fail
    go_ret
    exact ⟨⟨_, rfl⟩, he4⟩
  by_cases g2 : (20 : Int) < (c.game.owner.length : Int)
  · go_wp2_with fail
    go_ret
    exact ⟨⟨_, rfl⟩, he4⟩
  by_cases g3 : (20 : Int) < (c.game.prio.length : Int)
  · go_wp2_with fail
    go_ret
    exact ⟨⟨_, rfl⟩, he4⟩
  go_wp2_with fail
  clear f17 f18 f19 f20
  go_fit (rows_bool 20 (by omega) (rowsBelow h10 he4))
  rintro e w5 ⟨⟨b, rfl⟩, hB⟩
  have hb5 : Below wb.heap.size wb w5 := hb4.trans (hB.mono hb4.size)
  clear hB
  have he5 : Below w.heap.size w w5 := hBb.trans (hb5.mono (Nat.le_of_lt hbs))
  have f21 := keep hb5 21 _ rfl
  cases b
  · go_wp2_with fail
    go_ret
    exact ⟨⟨_, rfl⟩, he5⟩
  go_wp2_with fail
  clear f21
  go_fit (rows_bool 20 (by omega) (rowsBelow h11 he5))
  rintro e w6 ⟨⟨b, rfl⟩, hB⟩
  have hb6 : Below wb.heap.size wb w6 := hb5.trans (hB.mono hb5.size)
  clear hB
  have he6 : Below w.heap.size w w6 := hBb.trans (hb6.mono (Nat.le_of_lt hbs))
  have f22 := keep hb6 22 _ rfl
  have f23 := keep hb6 23 _ rfl
  cases b
  · go_wp2_with fail
    go_ret
    exact ⟨⟨_, rfl⟩, he6⟩
  by_cases g4 : (20 : Int) < (c.letters.length : Int)
  · go_wp2_with fail
    go_ret
    exact ⟨⟨_, rfl⟩, he6⟩
  go_wp2_with fail
  clear f22 f23
  go_fit (smallList_any 450 hr (h13.below he6))
  rintro e w7 ⟨⟨b, rfl⟩, hB⟩
  have hb7 : Below wb.heap.size wb w7 := hb6.trans (hB.mono hb6.size)
  clear hB
  have he7 : Below w.heap.size w w7 := hBb.trans (hb7.mono (Nat.le_of_lt hbs))
  have f17 := keep hb7 17 _ rfl
  cases b
  · go_wp2_with fail
    go_ret
    exact ⟨⟨_, rfl⟩, he7⟩
  go_wp2_with fail
  clear h1 h2 h3 h4 h5 h6 h8 h9 h10 h11 h12 h13 g1 g2 g3 g4 he1 he2 he3 he4 he5 he6 hb1 hb2 hb3 hb4 hb5 hb6
  go_loopw [3] (fun i wr => wr = w7 ∧ ∃ k : Nat, k ≤ c.spots.length ∧ i = .int .i64 k) (fun i _ => c.spots.length - (RowKit.intOf i).toNat)
  case atStart => exact ⟨rfl, 0, Nat.zero_le _, rfl⟩
  case round =>
    obtain ⟨rfl, k, hk, rfl⟩ := hrel
    by_cases hkl : k < c.spots.length
    · obtain ⟨b, o, x, rfl, hb, hx, d0, d1, ⟨u, d2, hu⟩, d3, d4⟩ := hsp.get hkl
      obtain ⟨a2, cap2, rfl, -, -⟩ := hu
      have e2 := (he7.cell (p := ⟨b, o + k * 5 + 2, none⟩) hb).trans d2
      clear d0 d1 d2 d3 d4 hsp
      by_cases hs : (20 : Int) < (x.set.length : Int)
      · go_wp2_with fail
        go_ret
        exact ⟨⟨_, rfl⟩, he7⟩
      · go_wp2_with fail
        go_roundw
        case rel => exact ⟨trivial, k + 1, by omega, by go_num⟩
        case measure => simp [RowKit.intOf]; omega
    · go_wp2_with fail
      go_ret
      exact ⟨⟨_, rfl⟩, he7⟩
end Go.Proofs.YtcedalofcekdkaaGreatDoor
end
