/- ProofClaims, walked: two claims that can be written have the same numbers just where they have the same parts. -/
import Derived.Test.YtcedalofcekdkaaGreatDoorEncW
import Derived.Test.YtcedalofcekdkaaGreatDoorPlainA
import Derived.Test.YtcedalofcekdkaaGreatDoorLawB
import Derived.Test.YtcedalofcekdkaaGreatDoorEqF
import Derived.Test.YtcedalofcekdkaaGreatDoorEqK
import Derived.Test.YtcedalofcekdkaaGreatDoorHeadZ
import Derived.Deep.DeepCutAuto
import Derived.Deep.MidRow
set_option linter.unusedSimpArgs false
set_option linter.unusedVariables false
namespace Go.Proofs.YtcedalofcekdkaaGreatDoor
open Go.RowKit

theorem laid_below {w w' : World} (h : Go.Proofs.YtcedalofcekdkaaGreatDoor.Ex.Laid 5 w) (hb : Below w.heap.size w w') : Go.Proofs.YtcedalofcekdkaaGreatDoor.Ex.Laid 5 w' := by
  have h1 := h.base
  have h2 := h.b4
  obtain ⟨c, ty, fz, a1, a2⟩ := h.spaces
  obtain ⟨c0, ty0, fz0, y0, b1, b2⟩ := h.err
  exact ⟨Nat.le_trans h1 hb.size, h2, ⟨c, ty, fz, (hb.block 4 (by omega)).trans a1, a2⟩, ⟨c0, ty0, fz0, y0, (hb.block 0 (by omega)).trans b1, b2⟩⟩

theorem two_cells (w : World) (C D : Array Value) : let W := (w.alloc (.cells C 55)).alloc (.cells D 55)
    (∀ i x, C[i]? = some x → W.cell? ⟨w.heap.size, i, none⟩ = some x) ∧ (∀ i x, D[i]? = some x → W.cell? ⟨w.heap.size + 1, i, none⟩ = some x) := by
  intro W
  constructor
  · intro i x hx
    refine (((Below.refl (w.heap.size + 1) (w.alloc _)).alloc (by simp) _).cell (p := ⟨w.heap.size, i, none⟩) (by show w.heap.size < _; omega)).trans ?_
    rw [World.cell?_alloc_new]; exact hx
  · intro i x hx
    have hs : (w.alloc (.cells C 55)).heap.size = w.heap.size + 1 := by simp
    rw [← hs]
    show World.cell? ((w.alloc (.cells C 55)).alloc (.cells D 55)) _ = _
    rw [World.cell?_alloc_new]; exact hx

theorem wpList_load_in {P : Program} {ops : Array Oper} {rest : List Oper} {op : Oper} {a : Act} {w : World} {Q : Exit → Act → World → Prop} (hw : Region.wanted op (yielded ops a.tmps) = true) (ty : TypeId) (x : Operand) (ho : op.op = .load ty x)
    (b o : Nat) (hx : a.eval x = .pointer (some ⟨b, o, none⟩)) (cs : List Value) (d : TypeDesc) (hc : w.rangeAt b o cs)
    (hu : P.underlying ty = some d) (hd : d.isRow = true) (hi : (P.info? ty).map (·.size) = some cs.length)
    (h : wpList P ops Q rest (a.put op.dst (.agg cs.toArray)) w) : wpList P ops Q (op :: rest) a w :=
  wpList_step fun K hK => by
    simp only [hw, if_true]
    exact wp_load_mid ty x ho b o hx cs d hc hu hd hi (hK _ _ h)

theorem info55 : (Tryz.prog.info? 55).map (·.size) = some 24 := by kernel_rfl

set_option maxHeartbeats 12800000 in
set_option maxRecDepth 1000000 in
theorem claims_walk {w : World} {v1 v2 : Value} {c d : ClaimD} (hv1 : ClaimV w v1 c) (hv2 : ClaimV w v2 d) (r1 : Room c) (r2 : Room d) (hL : Go.Proofs.YtcedalofcekdkaaGreatDoor.Ex.Laid 5 w) :
    Calls Tryz.prog 6 #[v1, v2] w fun e w' => e = .returned (.bool true) ∧ Below w.heap.size w w' := by
  have hc1 := hv1
  have hc2 := hv2
  obtain ⟨cs, rfl, s, opx, namex, valx, boundx, argsx, fa, mo, mn, ei, en, sp, go, gp, gs, me, le, re, h0x, rfl, h1x, h2x, h3x, h4x, h5x, h6x, h7x, h8x, h9x, h10x, h11x, h12x, h13x⟩ := hv1
  obtain ⟨asgx, csx, rfl, -⟩ := id h1x
  obtain ⟨afx, cfx, rfl, -⟩ := id h2x
  obtain ⟨amox, cmox, rfl, -⟩ := id h3x
  obtain ⟨amnx, cmnx, rfl, -⟩ := id h4x
  obtain ⟨aeix, ceix, rfl, -, -⟩ := id h5x
  obtain ⟨aenx, cenx, rfl, -⟩ := id h6x
  obtain ⟨aspx, cspx, rfl, -⟩ := id h7x
  obtain ⟨agox, cgox, rfl, -, -⟩ := id h8x
  obtain ⟨agpx, cgpx, rfl, -, -⟩ := id h9x
  obtain ⟨agsx, cgsx, rfl, -⟩ := id h10x
  obtain ⟨amex, cmex, rfl, -⟩ := id h11x
  obtain ⟨alex, clex, rfl, -, -⟩ := id h12x
  obtain ⟨arex, crex, rfl, -⟩ := id h13x
  obtain ⟨cs, rfl, s, opy, namey, valy, boundy, argsy, fa, mo, mn, ei, en, sp, go, gp, gs, me, le, re, h0y, rfl, h1y, h2y, h3y, h4y, h5y, h6y, h7y, h8y, h9y, h10y, h11y, h12y, h13y⟩ := hv2
  obtain ⟨asgy, csy, rfl, -⟩ := id h1y
  obtain ⟨afy, cfy, rfl, -⟩ := id h2y
  obtain ⟨amoy, cmoy, rfl, -⟩ := id h3y
  obtain ⟨amny, cmny, rfl, -⟩ := id h4y
  obtain ⟨aeiy, ceiy, rfl, -, -⟩ := id h5y
  obtain ⟨aeny, ceny, rfl, -⟩ := id h6y
  obtain ⟨aspy, cspy, rfl, -⟩ := id h7y
  obtain ⟨agoy, cgoy, rfl, -, -⟩ := id h8y
  obtain ⟨agpy, cgpy, rfl, -, -⟩ := id h9y
  obtain ⟨agsy, cgsy, rfl, -⟩ := id h10y
  obtain ⟨amey, cmey, rfl, -⟩ := id h11y
  obtain ⟨aley, cley, rfl, -, -⟩ := id h12y
  obtain ⟨arey, crey, rfl, -⟩ := id h13y
  unfold ClaimCells at hc1 hc2 ⊢
  go_enter Tryz.func6, Tryz.ntmps6
  go_wp2_with fail
  have htwo := two_cells w #[Value.int .i64 c.kind, Value.slice asgx c.sigs.length csx, Value.int .i64 opx, Value.string namex, Value.int .i64 valx, Value.int .i64 boundx, Value.slice afx argsx.length cfx, Value.int .i64 c.ctrl.ins, Value.int .i64 c.ctrl.outs, Value.int .i64 c.ctrl.start, Value.slice amox c.ctrl.out.length cmox, Value.slice amnx c.ctrl.next.length cmnx, Value.int .i64 c.env.ins, Value.int .i64 c.env.outs, Value.int .i64 c.env.start, Value.slice aeix c.env.inp.length ceix, Value.slice aenx c.env.next.length cenx, Value.slice aspx c.spots.length cspx, Value.slice agox c.game.owner.length cgox, Value.slice agpx c.game.prio.length cgpx, Value.slice agsx c.game.succ.length cgsx, Value.slice amex c.measure.length cmex, Value.slice alex c.letters.length clex, Value.slice arex c.residuals.length crex] #[Value.int .i64 d.kind, Value.slice asgy d.sigs.length csy, Value.int .i64 opy, Value.string namey, Value.int .i64 valy, Value.int .i64 boundy, Value.slice afy argsy.length cfy, Value.int .i64 d.ctrl.ins, Value.int .i64 d.ctrl.outs, Value.int .i64 d.ctrl.start, Value.slice amoy d.ctrl.out.length cmoy, Value.slice amny d.ctrl.next.length cmny, Value.int .i64 d.env.ins, Value.int .i64 d.env.outs, Value.int .i64 d.env.start, Value.slice aeiy d.env.inp.length ceiy, Value.slice aeny d.env.next.length ceny, Value.slice aspy d.spots.length cspy, Value.slice agoy d.game.owner.length cgoy, Value.slice agpy d.game.prio.length cgpy, Value.slice agsy d.game.succ.length cgsy, Value.slice amey d.measure.length cmey, Value.slice aley d.letters.length cley, Value.slice arey d.residuals.length crey]
  generalize hwb : (w.alloc (Obj.cells #[Value.int .i64 c.kind, Value.slice asgx c.sigs.length csx, Value.int .i64 opx, Value.string namex, Value.int .i64 valx, Value.int .i64 boundx, Value.slice afx argsx.length cfx, Value.int .i64 c.ctrl.ins, Value.int .i64 c.ctrl.outs, Value.int .i64 c.ctrl.start, Value.slice amox c.ctrl.out.length cmox, Value.slice amnx c.ctrl.next.length cmnx, Value.int .i64 c.env.ins, Value.int .i64 c.env.outs, Value.int .i64 c.env.start, Value.slice aeix c.env.inp.length ceix, Value.slice aenx c.env.next.length cenx, Value.slice aspx c.spots.length cspx, Value.slice agox c.game.owner.length cgox, Value.slice agpx c.game.prio.length cgpx, Value.slice agsx c.game.succ.length cgsx, Value.slice amex c.measure.length cmex, Value.slice alex c.letters.length clex, Value.slice arex c.residuals.length crex] 55)).alloc (Obj.cells #[Value.int .i64 d.kind, Value.slice asgy d.sigs.length csy, Value.int .i64 opy, Value.string namey, Value.int .i64 valy, Value.int .i64 boundy, Value.slice afy argsy.length cfy, Value.int .i64 d.ctrl.ins, Value.int .i64 d.ctrl.outs, Value.int .i64 d.ctrl.start, Value.slice amoy d.ctrl.out.length cmoy, Value.slice amny d.ctrl.next.length cmny, Value.int .i64 d.env.ins, Value.int .i64 d.env.outs, Value.int .i64 d.env.start, Value.slice aeiy d.env.inp.length ceiy, Value.slice aeny d.env.next.length ceny, Value.slice aspy d.spots.length cspy, Value.slice agoy d.game.owner.length cgoy, Value.slice agpy d.game.prio.length cgpy, Value.slice agsy d.game.succ.length cgsy, Value.slice amey d.measure.length cmey, Value.slice aley d.letters.length cley, Value.slice arey d.residuals.length crey] 55) = wb at htwo ⊢
  have hBb : Below w.heap.size w wb := by rw [← hwb]; exact ((Below.refl _ w).alloc (Nat.le_refl _) _).alloc (by simp) _
  have hbs : wb.heap.size = w.heap.size + 2 := by rw [← hwb]; simp
  clear hwb
  have kx : ∀ {w2 : World}, Below wb.heap.size wb w2 → ∀ i x, (#[Value.int .i64 c.kind, Value.slice asgx c.sigs.length csx, Value.int .i64 opx, Value.string namex, Value.int .i64 valx, Value.int .i64 boundx, Value.slice afx argsx.length cfx, Value.int .i64 c.ctrl.ins, Value.int .i64 c.ctrl.outs, Value.int .i64 c.ctrl.start, Value.slice amox c.ctrl.out.length cmox, Value.slice amnx c.ctrl.next.length cmnx, Value.int .i64 c.env.ins, Value.int .i64 c.env.outs, Value.int .i64 c.env.start, Value.slice aeix c.env.inp.length ceix, Value.slice aenx c.env.next.length cenx, Value.slice aspx c.spots.length cspx, Value.slice agox c.game.owner.length cgox, Value.slice agpx c.game.prio.length cgpx, Value.slice agsx c.game.succ.length cgsx, Value.slice amex c.measure.length cmex, Value.slice alex c.letters.length clex, Value.slice arex c.residuals.length crex])[i]? = some x → w2.cell? ⟨w.heap.size, i, none⟩ = some x := fun hk i x hx => by
    rw [hk.cell (p := ⟨w.heap.size, i, none⟩) (by show w.heap.size < _; omega)]; exact htwo.1 i x hx
  have ky : ∀ {w2 : World}, Below wb.heap.size wb w2 → ∀ i x, (#[Value.int .i64 d.kind, Value.slice asgy d.sigs.length csy, Value.int .i64 opy, Value.string namey, Value.int .i64 valy, Value.int .i64 boundy, Value.slice afy argsy.length cfy, Value.int .i64 d.ctrl.ins, Value.int .i64 d.ctrl.outs, Value.int .i64 d.ctrl.start, Value.slice amoy d.ctrl.out.length cmoy, Value.slice amny d.ctrl.next.length cmny, Value.int .i64 d.env.ins, Value.int .i64 d.env.outs, Value.int .i64 d.env.start, Value.slice aeiy d.env.inp.length ceiy, Value.slice aeny d.env.next.length ceny, Value.slice aspy d.spots.length cspy, Value.slice agoy d.game.owner.length cgoy, Value.slice agpy d.game.prio.length cgpy, Value.slice agsy d.game.succ.length cgsy, Value.slice amey d.measure.length cmey, Value.slice aley d.letters.length cley, Value.slice arey d.residuals.length crey])[i]? = some x → w2.cell? ⟨w.heap.size + 1, i, none⟩ = some x := fun hk i x hx => by
    rw [hk.cell (p := ⟨w.heap.size + 1, i, none⟩) (by show w.heap.size + 1 < _; omega)]; exact htwo.2 i x hx
  clear htwo
  have rx : ∀ {w2 : World}, Below wb.heap.size wb w2 → w2.rangeAt w.heap.size 0 [Value.int .i64 c.kind, Value.slice asgx c.sigs.length csx, Value.int .i64 opx, Value.string namex, Value.int .i64 valx, Value.int .i64 boundx, Value.slice afx argsx.length cfx, Value.int .i64 c.ctrl.ins, Value.int .i64 c.ctrl.outs, Value.int .i64 c.ctrl.start, Value.slice amox c.ctrl.out.length cmox, Value.slice amnx c.ctrl.next.length cmnx, Value.int .i64 c.env.ins, Value.int .i64 c.env.outs, Value.int .i64 c.env.start, Value.slice aeix c.env.inp.length ceix, Value.slice aenx c.env.next.length cenx, Value.slice aspx c.spots.length cspx, Value.slice agox c.game.owner.length cgox, Value.slice agpx c.game.prio.length cgpx, Value.slice agsx c.game.succ.length cgsx, Value.slice amex c.measure.length cmex, Value.slice alex c.letters.length clex, Value.slice arex c.residuals.length crex] := fun hk j v hv => by
    rw [Nat.zero_add]; exact kx hk j v (by rw [List.getElem?_toArray]; exact hv)
  have ry : ∀ {w2 : World}, Below wb.heap.size wb w2 → w2.rangeAt (w.heap.size + 1) 0 [Value.int .i64 d.kind, Value.slice asgy d.sigs.length csy, Value.int .i64 opy, Value.string namey, Value.int .i64 valy, Value.int .i64 boundy, Value.slice afy argsy.length cfy, Value.int .i64 d.ctrl.ins, Value.int .i64 d.ctrl.outs, Value.int .i64 d.ctrl.start, Value.slice amoy d.ctrl.out.length cmoy, Value.slice amny d.ctrl.next.length cmny, Value.int .i64 d.env.ins, Value.int .i64 d.env.outs, Value.int .i64 d.env.start, Value.slice aeiy d.env.inp.length ceiy, Value.slice aeny d.env.next.length ceny, Value.slice aspy d.spots.length cspy, Value.slice agoy d.game.owner.length cgoy, Value.slice agpy d.game.prio.length cgpy, Value.slice agsy d.game.succ.length cgsy, Value.slice amey d.measure.length cmey, Value.slice aley d.letters.length cley, Value.slice arey d.residuals.length crey] := fun hk j v hv => by
    rw [Nat.zero_add]; exact ky hk j v (by rw [List.getElem?_toArray]; exact hv)
  have p1x := sigsBelow h1x hBb
  have p2x := h2x.below hBb
  have p3x := rowsBelow h3x hBb
  have p4x := rowsBelow h4x hBb
  have p5x := h5x.below hBb
  have p6x := rowsBelow h6x hBb
  have p7x := spotsBelow h7x hBb
  have p8x := h8x.below hBb
  have p9x := h9x.below hBb
  have p10x := rowsBelow h10x hBb
  have p11x := rowsBelow h11x hBb
  have p12x := h12x.below hBb
  have p13x := h13x.below hBb
  have p1y := sigsBelow h1y hBb
  have p2y := h2y.below hBb
  have p3y := rowsBelow h3y hBb
  have p4y := rowsBelow h4y hBb
  have p5y := h5y.below hBb
  have p6y := rowsBelow h6y hBb
  have p7y := spotsBelow h7y hBb
  have p8y := h8y.below hBb
  have p9y := h9y.below hBb
  have p10y := rowsBelow h10y hBb
  have p11y := rowsBelow h11y hBb
  have p12y := h12y.below hBb
  have p13y := h13y.below hBb
  have q1 := hc1.below hBb
  have q2 := hc2.below hBb
  clear h1x h2x h3x h4x h5x h6x h7x h8x h9x h10x h11x h12x h13x h1y h2y h3y h4y h5y h6y h7y h8y h9y h10y h11y h12y h13y hc1 hc2
  have hhd := head_calls (laid_below hL hBb)
  go_fit hhd
  rintro e w1 ⟨rfl, hb1⟩
  clear hhd hL
  have hsm := smallClaim_bool (q1.below hb1) (Nat.le_trans (sz_enc _) r1.form) (Nat.le_trans (sz_enc _) r1.residuals) (by have := r1.spots; omega)
  go_wp2_with (refine wpList_load_in rfl 55 _ rfl (w.heap.size) 0 rfl [Value.int .i64 c.kind, Value.slice asgx c.sigs.length csx, Value.int .i64 opx, Value.string namex, Value.int .i64 valx, Value.int .i64 boundx, Value.slice afx argsx.length cfx, Value.int .i64 c.ctrl.ins, Value.int .i64 c.ctrl.outs, Value.int .i64 c.ctrl.start, Value.slice amox c.ctrl.out.length cmox, Value.slice amnx c.ctrl.next.length cmnx, Value.int .i64 c.env.ins, Value.int .i64 c.env.outs, Value.int .i64 c.env.start, Value.slice aeix c.env.inp.length ceix, Value.slice aenx c.env.next.length cenx, Value.slice aspx c.spots.length cspx, Value.slice agox c.game.owner.length cgox, Value.slice agpx c.game.prio.length cgpx, Value.slice agsx c.game.succ.length cgsx, Value.slice amex c.measure.length cmex, Value.slice alex c.letters.length clex, Value.slice arex c.residuals.length crex] _ (rx hb1) Tryz.underlying55 rfl info55 ?_)
  go_fit hsm
  rintro e w2 ⟨⟨s1, rfl⟩, hB2⟩
  have hb2 := hb1.trans (hB2.mono hb1.size)
  clear hsm hB2
  cases s1
  · go_wp2_with fail
    go_ret
    exact ⟨rfl, hBb.trans (hb2.mono (by omega))⟩
  have hsm := smallClaim_bool (q2.below hb2) (Nat.le_trans (sz_enc _) r2.form) (Nat.le_trans (sz_enc _) r2.residuals) (by have := r2.spots; omega)
  go_wp2_with (refine wpList_load_in rfl 55 _ rfl (w.heap.size + 1) 0 rfl [Value.int .i64 d.kind, Value.slice asgy d.sigs.length csy, Value.int .i64 opy, Value.string namey, Value.int .i64 valy, Value.int .i64 boundy, Value.slice afy argsy.length cfy, Value.int .i64 d.ctrl.ins, Value.int .i64 d.ctrl.outs, Value.int .i64 d.ctrl.start, Value.slice amoy d.ctrl.out.length cmoy, Value.slice amny d.ctrl.next.length cmny, Value.int .i64 d.env.ins, Value.int .i64 d.env.outs, Value.int .i64 d.env.start, Value.slice aeiy d.env.inp.length ceiy, Value.slice aeny d.env.next.length ceny, Value.slice aspy d.spots.length cspy, Value.slice agoy d.game.owner.length cgoy, Value.slice agpy d.game.prio.length cgpy, Value.slice agsy d.game.succ.length cgsy, Value.slice amey d.measure.length cmey, Value.slice aley d.letters.length cley, Value.slice arey d.residuals.length crey] _ (ry hb2) Tryz.underlying55 rfl info55 ?_)
  go_fit hsm
  rintro e w3 ⟨⟨s2, rfl⟩, hB3⟩
  have hb3 := hb2.trans (hB3.mono hb2.size)
  clear hsm hB3
  cases s2
  · go_wp2_with fail
    go_ret
    exact ⟨rfl, hBb.trans (hb3.mono (by omega))⟩
  have hen := encode_calls (q1.below hb3) r1
  go_wp2_with (refine wpList_load_in rfl 55 _ rfl (w.heap.size) 0 rfl [Value.int .i64 c.kind, Value.slice asgx c.sigs.length csx, Value.int .i64 opx, Value.string namex, Value.int .i64 valx, Value.int .i64 boundx, Value.slice afx argsx.length cfx, Value.int .i64 c.ctrl.ins, Value.int .i64 c.ctrl.outs, Value.int .i64 c.ctrl.start, Value.slice amox c.ctrl.out.length cmox, Value.slice amnx c.ctrl.next.length cmnx, Value.int .i64 c.env.ins, Value.int .i64 c.env.outs, Value.int .i64 c.env.start, Value.slice aeix c.env.inp.length ceix, Value.slice aenx c.env.next.length cenx, Value.slice aspx c.spots.length cspx, Value.slice agox c.game.owner.length cgox, Value.slice agpx c.game.prio.length cgpx, Value.slice agsx c.game.succ.length cgsx, Value.slice amex c.measure.length cmex, Value.slice alex c.letters.length clex, Value.slice arex c.residuals.length crex] _ (rx hb3) Tryz.underlying55 rfl info55 ?_)
  go_fit hen
  rintro e w4 ⟨an1, n1, cn1, sl1, er1, rfl, hB4, hcs1, hok1⟩
  have hb4 := hb3.trans (hB4.mono hb3.size)
  clear hen hB4
  have hen := encode_calls (q2.below (hb4.alloc hb4.size (Obj.cells #[Value.slice an1 n1 cn1, Value.int .i64 sl1] 30))) r2
  go_wp2_with (refine wpList_load_in rfl 55 _ rfl (w.heap.size + 1) 0 rfl [Value.int .i64 d.kind, Value.slice asgy d.sigs.length csy, Value.int .i64 opy, Value.string namey, Value.int .i64 valy, Value.int .i64 boundy, Value.slice afy argsy.length cfy, Value.int .i64 d.ctrl.ins, Value.int .i64 d.ctrl.outs, Value.int .i64 d.ctrl.start, Value.slice amoy d.ctrl.out.length cmoy, Value.slice amny d.ctrl.next.length cmny, Value.int .i64 d.env.ins, Value.int .i64 d.env.outs, Value.int .i64 d.env.start, Value.slice aeiy d.env.inp.length ceiy, Value.slice aeny d.env.next.length ceny, Value.slice aspy d.spots.length cspy, Value.slice agoy d.game.owner.length cgoy, Value.slice agpy d.game.prio.length cgpy, Value.slice agsy d.game.succ.length cgsy, Value.slice amey d.measure.length cmey, Value.slice aley d.letters.length cley, Value.slice arey d.residuals.length crey] _ (ry (hb4.alloc hb4.size (Obj.cells #[Value.slice an1 n1 cn1, Value.int .i64 sl1] 30))) Tryz.underlying55 rfl info55 ?_)
  go_fit hen
  rintro e w5 ⟨an2, n2, cn2, sl2, er2, rfl, hB5, hcs2, hok2⟩
  have hb5 := (hb4.alloc hb4.size (Obj.cells #[Value.slice an1 n1 cn1, Value.int .i64 sl1] 30)).trans (hB5.mono (hb4.alloc hb4.size (Obj.cells #[Value.slice an1 n1 cn1, Value.int .i64 sl1] 30)).size)
  clear hen
  by_cases hee : er1 = 0 ∧ er2 = 0
  rotate_left
  · have hend := hBb.trans ((hb5.alloc hb5.size (Obj.cells #[Value.slice an2 n2 cn2, Value.int .i64 sl2] 30)).mono (by omega : w.heap.size ≤ wb.heap.size))
    clear hok1 hok2
    rcases hcs1 with rfl | rfl | rfl <;> rcases hcs2 with rfl | rfl | rfl <;> first
      | exact absurd ⟨rfl, rfl⟩ hee
      | (go_wp2_with fail; go_ret; exact ⟨rfl, hend⟩)
  obtain ⟨rfl, rfl⟩ := hee
  obtain ⟨fit1, hI1, bad1, len1⟩ := hok1 rfl
  obtain ⟨fit2, hI2, bad2, len2⟩ := hok2 rfl
  have few1 := few_of fit1 bad1 len1
  obtain ⟨an1', cn1', e1, -, hA1⟩ := hI1
  cases e1
  obtain ⟨an2', cn2', e2, -, hA2⟩ := hI2
  cases e2
  have hA1 := hA1.below ((Below.refl _ w4).alloc (Nat.le_refl _) (Obj.cells #[.slice an1 (claimEnc c).length cn1, .int .i64 sl1] 30))
  have hA1 := (hA1.below hB5).below ((Below.refl _ w5).alloc (Nat.le_refl _) (Obj.cells #[.slice an2 (claimEnc d).length cn2, .int .i64 sl2] 30))
  have hA2 := hA2.below ((Below.refl _ w5).alloc (Nat.le_refl _) (Obj.cells #[.slice an2 (claimEnc d).length cn2, .int .i64 sl2] 30))
  have nn1 : (w5.alloc (Obj.cells #[.slice an2 (claimEnc d).length cn2, .int .i64 sl2] 30)).cell? ⟨w4.heap.size, 0, none⟩ = some (.slice an1 (claimEnc c).length cn1) := by
    have hs5 := hB5.size
    rw [World.size_alloc] at hs5
    rw [((Below.refl w5.heap.size w5).alloc (Nat.le_refl _) _).cell (p := ⟨w4.heap.size, 0, none⟩) (by show w4.heap.size < _; omega), hB5.cell (p := ⟨w4.heap.size, 0, none⟩) (by simp), World.cell?_alloc_new]; rfl
  have nn2 : (w5.alloc (Obj.cells #[.slice an2 (claimEnc d).length cn2, .int .i64 sl2] 30)).cell? ⟨w5.heap.size, 0, none⟩ = some (.slice an2 (claimEnc d).length cn2) := by rw [World.cell?_alloc_new]; rfl
  have hl4 : w4.heap.size < (w5.alloc (Obj.cells #[.slice an2 (claimEnc d).length cn2, .int .i64 sl2] 30)).heap.size := by
    have hs5 := hB5.size
    rw [World.size_alloc] at hs5 ⊢
    omega
  have hl5 : w5.heap.size < (w5.alloc (Obj.cells #[.slice an2 (claimEnc d).length cn2, .int .i64 sl2] 30)).heap.size := by rw [World.size_alloc]; omega
  have hb6 := hb5.alloc hb5.size (Obj.cells #[.slice an2 (claimEnc d).length cn2, .int .i64 sl2] 30)
  clear hok1 hok2 hcs1 hcs2 hb5 hB5 hb4 hb3 hb2 hb1 q1 q2
  go_upto_region 8 with fail
  generalize w5.alloc (Obj.cells #[.slice an2 (claimEnc d).length cn2, .int .i64 sl2] 30) = w6 at *
  generalize w4.heap.size = g4 at *
  generalize w5.heap.size = g5 at *
  refine chain_calls kx ky h0x h0y p1x p2x p3x p4x p5x p6x p7x p8x p9x p10x p11x p12x p13x p1y p2y p3y p4y p5y p6y p7y p8y p9y p10y p11y p12y p13y few1 hb6 ?_
  clear kx ky p1x p2x p3x p4x p5x p6x p7x p8x p9x p10x p11x p12x p13x p1y p2y p3y p4y p5y p6y p7y p8y p9y p10y p11y p12y p13y
  intro sm wc s11 s12 s13 s14 s15 s16 s17 s18 s19 s20 s21 s22 s23 s24 s25 s26 s27 s28 s29 s30 s31 s32 s33 s34 s35 s36 s37 s38 s39 s40 s41 s42 s43 s44 s45 s46 s47 s48 s49 s50 s51 s52 s53 s54 s55 s56 s57 s58 s59 s60 s61 s62 s63 s64 s65 s66 s67 s68 s69 s70 s71 s72 s73 s74 s75 s76 s77 s78 s79 s80 s81 s82 s83 s84 s85 s86 s87 s88 s89 s90 s91 s92 s93 s94 s95 s96 s97 s98 s99 s100 s101 s102 s103 s104 s105 s106 s107 s108 s109 s110 s111 s112 s113 s114 s115 s116 s117 s118 s119 s120 s121 s122 s123 s124 s125 s126 s127 hsm hbx
  dsimp only
  have m1 : wc.cell? ⟨g4, 0, none⟩ = some (.slice an1 (claimEnc c).length cn1) := (hbx.cell (p := ⟨g4, 0, none⟩) hl4).trans nn1
  have m2 : wc.cell? ⟨g5, 0, none⟩ = some (.slice an2 (claimEnc d).length cn2) := (hbx.cell (p := ⟨g5, 0, none⟩) hl5).trans nn2
  have hq := ints_quiet18 (claimEnc c) (claimEnc d) an1 an2 cn1 cn2 wc (hA1.below hbx) (hA2.below hbx) (by omega)
  have hsd : decide (claimEnc c = claimEnc d) = sm := by
    cases sm
    · exact decide_eq_false (fun e => absurd (hsm.2 (claim_inj fit1 fit2 e)) (by decide))
    · exact decide_eq_true (by rw [hsm.1 rfl])
  rw [hsd] at hq
  clear hsd hsm nn1 nn2 hA1 hA2
  go_wp2_with fail
  go_fit hq
  rintro e w9 ⟨rfl, hdr⟩
  cases sm <;> (go_wp2_with fail; go_ret; exact ⟨rfl, hBb.trans ((hb6.trans ((hbx.trans (hdr.below.mono hbx.size)).mono hb6.size)).mono (by omega))⟩)
end Go.Proofs.YtcedalofcekdkaaGreatDoor
