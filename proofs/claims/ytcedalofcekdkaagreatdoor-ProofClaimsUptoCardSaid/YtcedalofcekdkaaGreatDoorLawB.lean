/- The law's comparison of two claims' parts. -/
import Derived.Test.YtcedalofcekdkaaGreatDoorSwA
import Derived.Deep.DeepFit
import Derived.Test.YtcedalofcekdkaaGreatDoorPlainA
import Derived.Test.YtcedalofcekdkaaGreatDoorEqF
import Derived.Test.YtcedalofcekdkaaGreatDoorEqK
set_option linter.unusedSimpArgs false
set_option linter.unusedVariables false
section
namespace Go.Proofs.YtcedalofcekdkaaGreatDoor
open Go.RowKit

noncomputable def chCode : Code := codeL (codeR (codeR (codeR (codeR (codeR (codeR (Tryz.f6.body.getD Code.skip)))))))

def ChPost (c d : ClaimD) (w6 : World) (A g4 g5 : Nat) (A0 A1 : Value) (K : Act → World → Prop) : Prop :=
  ∀ (sm : Bool) (wx : World) (s11 s12 s13 s14 s15 s16 s17 s18 s19 s20 s21 s22 s23 s24 s25 s26 s27 s28 s29 s30 s31 s32 s33 s34 s35 s36 s37 s38 s39 s40 s41 s42 s43 s44 s45 s46 s47 s48 s49 s50 s51 s52 s53 s54 s55 s56 s57 s58 s59 s60 s61 s62 s63 s64 s65 s66 s67 s68 s69 s70 s71 s72 s73 s74 s75 s76 s77 s78 s79 s80 s81 s82 s83 s84 s85 s86 s87 s88 s89 s90 s91 s92 s93 s94 s95 s96 s97 s98 s99 s100 s101 s102 s103 s104 s105 s106 s107 s108 s109 s110 s111 s112 s113 s114 s115 s116 s117 s118 s119 s120 s121 s122 s123 s124 s125 s126 s127 : Value), (sm = true ↔ c = d) → Below w6.heap.size w6 wx → K ⟨#[A0, A1, .pointer (some ⟨A, 0, none⟩), .pointer (some ⟨A + 1, 0, none⟩), .bool false, .bool true, .pointer (some ⟨g4, 0, none⟩), .int .i64 0, .pointer (some ⟨g5, 0, none⟩), .int .i64 0, .bool sm, s11, s12, s13, s14, s15, s16, s17, s18, s19, s20, s21, s22, s23, s24, s25, s26, s27, s28, s29, s30, s31, s32, s33, s34, s35, s36, s37, s38, s39, s40, s41, s42, s43, s44, s45, s46, s47, s48, s49, s50, s51, s52, s53, s54, s55, s56, s57, s58, s59, s60, s61, s62, s63, s64, s65, s66, s67, s68, s69, s70, s71, s72, s73, s74, s75, s76, s77, s78, s79, s80, s81, s82, s83, s84, s85, s86, s87, s88, s89, s90, s91, s92, s93, s94, s95, s96, s97, s98, s99, s100, s101, s102, s103, s104, s105, s106, s107, s108, s109, s110, s111, s112, s113, s114, s115, s116, s117, s118, s119, s120, s121, s122, s123, s124, s125, s126, s127], []⟩ wx

def ChNo (A g4 g5 : Nat) (A0 A1 : Value) (K : Act → World → Prop) (W : World) : Prop :=
  ∀ s11 s12 s13 s14 s15 s16 s17 s18 s19 s20 s21 s22 s23 s24 s25 s26 s27 s28 s29 s30 s31 s32 s33 s34 s35 s36 s37 s38 s39 s40 s41 s42 s43 s44 s45 s46 s47 s48 s49 s50 s51 s52 s53 s54 s55 s56 s57 s58 s59 s60 s61 s62 s63 s64 s65 s66 s67 s68 s69 s70 s71 s72 s73 s74 s75 s76 s77 s78 s79 s80 s81 s82 s83 s84 s85 s86 s87 s88 s89 s90 s91 s92 s93 s94 s95 s96 s97 s98 s99 s100 s101 s102 s103 s104 s105 s106 s107 s108 s109 s110 s111 s112 s113 s114 s115 s116 s117 s118 s119 s120 s121 s122 s123 s124 s125 s126 s127 : Value, K ⟨#[A0, A1, .pointer (some ⟨A, 0, none⟩), .pointer (some ⟨A + 1, 0, none⟩), .bool false, .bool true, .pointer (some ⟨g4, 0, none⟩), .int .i64 0, .pointer (some ⟨g5, 0, none⟩), .int .i64 0, .bool false, s11, s12, s13, s14, s15, s16, s17, s18, s19, s20, s21, s22, s23, s24, s25, s26, s27, s28, s29, s30, s31, s32, s33, s34, s35, s36, s37, s38, s39, s40, s41, s42, s43, s44, s45, s46, s47, s48, s49, s50, s51, s52, s53, s54, s55, s56, s57, s58, s59, s60, s61, s62, s63, s64, s65, s66, s67, s68, s69, s70, s71, s72, s73, s74, s75, s76, s77, s78, s79, s80, s81, s82, s83, s84, s85, s86, s87, s88, s89, s90, s91, s92, s93, s94, s95, s96, s97, s98, s99, s100, s101, s102, s103, s104, s105, s106, s107, s108, s109, s110, s111, s112, s113, s114, s115, s116, s117, s118, s119, s120, s121, s122, s123, s124, s125, s126, s127], []⟩ W
theorem ch_no {c d : ClaimD} {w6 W : World} {A g4 g5 : Nat} {A0 A1 : Value} {K : Act → World → Prop} (hK : ChPost c d w6 A g4 g5 A0 A1 K) (h : false = true ↔ c = d) (hb : Below w6.heap.size w6 W) : ChNo A g4 g5 A0 A1 K W :=
  fun s11 s12 s13 s14 s15 s16 s17 s18 s19 s20 s21 s22 s23 s24 s25 s26 s27 s28 s29 s30 s31 s32 s33 s34 s35 s36 s37 s38 s39 s40 s41 s42 s43 s44 s45 s46 s47 s48 s49 s50 s51 s52 s53 s54 s55 s56 s57 s58 s59 s60 s61 s62 s63 s64 s65 s66 s67 s68 s69 s70 s71 s72 s73 s74 s75 s76 s77 s78 s79 s80 s81 s82 s83 s84 s85 s86 s87 s88 s89 s90 s91 s92 s93 s94 s95 s96 s97 s98 s99 s100 s101 s102 s103 s104 s105 s106 s107 s108 s109 s110 s111 s112 s113 s114 s115 s116 s117 s118 s119 s120 s121 s122 s123 s124 s125 s126 s127 => hK false _ s11 s12 s13 s14 s15 s16 s17 s18 s19 s20 s21 s22 s23 s24 s25 s26 s27 s28 s29 s30 s31 s32 s33 s34 s35 s36 s37 s38 s39 s40 s41 s42 s43 s44 s45 s46 s47 s48 s49 s50 s51 s52 s53 s54 s55 s56 s57 s58 s59 s60 s61 s62 s63 s64 s65 s66 s67 s68 s69 s70 s71 s72 s73 s74 s75 s76 s77 s78 s79 s80 s81 s82 s83 s84 s85 s86 s87 s88 s89 s90 s91 s92 s93 s94 s95 s96 s97 s98 s99 s100 s101 s102 s103 s104 s105 s106 s107 s108 s109 s110 s111 s112 s113 s114 s115 s116 s117 s118 s119 s120 s121 s122 s123 s124 s125 s126 s127 h hb

def Hid2 (p : Prop) : Prop := p
noncomputable def chOps : Array Oper := match chCode with
  | .region _ ops _ => ops
  | _ => #[]
end Go.Proofs.YtcedalofcekdkaaGreatDoor
end

section
namespace Go.Proofs.YtcedalofcekdkaaGreatDoor
open Go.RowKit
theorem letters_tell (w : World) {v v2 : Value} {xs ys : List Int} (hx : IntsV w v xs) (hy : IntsV w v2 ys) (hlen : xs.length ≤ 1000000) :
    Calls Tryz.prog 18 #[v, v2] w fun e w' => Tells e (xs = ys) ∧ Below w.heap.size w w' := by
  obtain ⟨a, c, rfl, -, hx⟩ := hx
  obtain ⟨a2, c2, rfl, -, hy⟩ := hy
  exact (ints_quiet18 xs ys a a2 c c2 w hx hy hlen).mono fun e w' h => ⟨⟨_, h.1, by simp⟩, h.2.below⟩

theorem tell_below {P : Program} {f : FuncId} {args : Array Value} {w : World} {p : Prop} (h : Calls P f args w fun e w' => Tells e p ∧ Drawn w w') : Calls P f args w fun e w' => Tells e p ∧ Below w.heap.size w w' := h.mono fun _ _ h => ⟨h.1, h.2.below⟩
theorem tell_dec {P : Program} {f : FuncId} {args : Array Value} {w : World} {p : Prop} [Decidable p] (h : Calls P f args w fun e w' => e = .returned (.bool (decide p)) ∧ Drawn w w') : Calls P f args w fun e w' => Tells e p ∧ Below w.heap.size w w' := h.mono fun _ _ h => ⟨⟨_, h.1, by simp⟩, h.2.below⟩

set_option linter.unusedVariables false in
set_option maxHeartbeats 12800000 in
set_option maxRecDepth 1000000 in
theorem chain_calls {wb w6 : World} {A g4 g5 : Nat} {c d : ClaimD} {opx valx boundx : Int} {namex : ByteArray} {argsx : List FT} {asgx afx amox amnx aeix aenx aspx agox agpx agsx amex alex arex : Option Addr} {csx cfx cmox cmnx ceix cenx cspx cgox cgpx cgsx cmex clex crex : Nat} {opy valy boundy : Int} {namey : ByteArray} {argsy : List FT} {asgy afy amoy amny aeiy aeny aspy agoy agpy agsy amey aley arey : Option Addr} {csy cfy cmoy cmny ceiy ceny cspy cgoy cgpy cgsy cmey cley crey : Nat}
    (kx : ∀ {w2 : World}, Below wb.heap.size wb w2 → ∀ i x, (#[Value.int .i64 c.kind, Value.slice asgx c.sigs.length csx, Value.int .i64 opx, Value.string namex, Value.int .i64 valx, Value.int .i64 boundx, Value.slice afx argsx.length cfx, Value.int .i64 c.ctrl.ins, Value.int .i64 c.ctrl.outs, Value.int .i64 c.ctrl.start, Value.slice amox c.ctrl.out.length cmox, Value.slice amnx c.ctrl.next.length cmnx, Value.int .i64 c.env.ins, Value.int .i64 c.env.outs, Value.int .i64 c.env.start, Value.slice aeix c.env.inp.length ceix, Value.slice aenx c.env.next.length cenx, Value.slice aspx c.spots.length cspx, Value.slice agox c.game.owner.length cgox, Value.slice agpx c.game.prio.length cgpx, Value.slice agsx c.game.succ.length cgsx, Value.slice amex c.measure.length cmex, Value.slice alex c.letters.length clex, Value.slice arex c.residuals.length crex])[i]? = some x → w2.cell? ⟨A, i, none⟩ = some x)
    (ky : ∀ {w2 : World}, Below wb.heap.size wb w2 → ∀ i x, (#[Value.int .i64 d.kind, Value.slice asgy d.sigs.length csy, Value.int .i64 opy, Value.string namey, Value.int .i64 valy, Value.int .i64 boundy, Value.slice afy argsy.length cfy, Value.int .i64 d.ctrl.ins, Value.int .i64 d.ctrl.outs, Value.int .i64 d.ctrl.start, Value.slice amoy d.ctrl.out.length cmoy, Value.slice amny d.ctrl.next.length cmny, Value.int .i64 d.env.ins, Value.int .i64 d.env.outs, Value.int .i64 d.env.start, Value.slice aeiy d.env.inp.length ceiy, Value.slice aeny d.env.next.length ceny, Value.slice aspy d.spots.length cspy, Value.slice agoy d.game.owner.length cgoy, Value.slice agpy d.game.prio.length cgpy, Value.slice agsy d.game.succ.length cgsy, Value.slice amey d.measure.length cmey, Value.slice aley d.letters.length cley, Value.slice arey d.residuals.length crey])[i]? = some x → w2.cell? ⟨A + 1, i, none⟩ = some x)
    (h0x : c.form = FT.node opx namex valx boundx argsx) (h0y : d.form = FT.node opy namey valy boundy argsy)
    (p1x : SigsV wb (Value.slice asgx c.sigs.length csx) c.sigs) (p2x : FormsV wb (Value.slice afx argsx.length cfx) argsx) (p3x : RowsV wb (Value.slice amox c.ctrl.out.length cmox) c.ctrl.out) (p4x : RowsV wb (Value.slice amnx c.ctrl.next.length cmnx) c.ctrl.next) (p5x : IntsV wb (Value.slice aeix c.env.inp.length ceix) c.env.inp) (p6x : RowsV wb (Value.slice aenx c.env.next.length cenx) c.env.next) (p7x : SpotsV wb (Value.slice aspx c.spots.length cspx) c.spots) (p8x : IntsV wb (Value.slice agox c.game.owner.length cgox) c.game.owner) (p9x : IntsV wb (Value.slice agpx c.game.prio.length cgpx) c.game.prio) (p10x : RowsV wb (Value.slice agsx c.game.succ.length cgsx) c.game.succ) (p11x : RowsV wb (Value.slice amex c.measure.length cmex) c.measure) (p12x : IntsV wb (Value.slice alex c.letters.length clex) c.letters) (p13x : FormsV wb (Value.slice arex c.residuals.length crex) c.residuals)
    (p1y : SigsV wb (Value.slice asgy d.sigs.length csy) d.sigs) (p2y : FormsV wb (Value.slice afy argsy.length cfy) argsy) (p3y : RowsV wb (Value.slice amoy d.ctrl.out.length cmoy) d.ctrl.out) (p4y : RowsV wb (Value.slice amny d.ctrl.next.length cmny) d.ctrl.next) (p5y : IntsV wb (Value.slice aeiy d.env.inp.length ceiy) d.env.inp) (p6y : RowsV wb (Value.slice aeny d.env.next.length ceny) d.env.next) (p7y : SpotsV wb (Value.slice aspy d.spots.length cspy) d.spots) (p8y : IntsV wb (Value.slice agoy d.game.owner.length cgoy) d.game.owner) (p9y : IntsV wb (Value.slice agpy d.game.prio.length cgpy) d.game.prio) (p10y : RowsV wb (Value.slice agsy d.game.succ.length cgsy) d.game.succ) (p11y : RowsV wb (Value.slice amey d.measure.length cmey) d.measure) (p12y : IntsV wb (Value.slice aley d.letters.length cley) d.letters) (p13y : FormsV wb (Value.slice arey d.residuals.length crey) d.residuals)
    (few1 : Few c) (hb6 : Below wb.heap.size wb w6) {K : Act → World → Prop} {X} {A0 A1 t10 t11 t12 t13 t14 t15 t16 t17 t18 t19 t20 t21 t22 t23 t24 t25 t26 t27 t28 t29 t30 t31 t32 t33 t34 t35 t36 t37 t38 t39 t40 t41 t42 t43 t44 t45 t46 t47 t48 t49 t50 t51 t52 t53 t54 t55 t56 t57 t58 t59 t60 t61 t62 t63 t64 t65 t66 t67 t68 t69 t70 t71 t72 t73 t74 t75 t76 t77 t78 t79 t80 t81 t82 t83 t84 t85 t86 t87 t88 t89 t90 t91 t92 t93 t94 t95 t96 t97 t98 t99 t100 t101 t102 t103 t104 t105 t106 t107 t108 t109 t110 t111 t112 t113 t114 t115 t116 t117 t118 t119 t120 t121 t122 t123 t124 t125 t126 t127 : Value} (hK : ChPost c d w6 A g4 g5 A0 A1 K) :
    Code.wp Tryz.prog chCode (Exit.then K X) ⟨#[A0, A1, .pointer (some ⟨A, 0, none⟩), .pointer (some ⟨A + 1, 0, none⟩), .bool false, .bool true, .pointer (some ⟨g4, 0, none⟩), .int .i64 0, .pointer (some ⟨g5, 0, none⟩), .int .i64 0, t10, t11, t12, t13, t14, t15, t16, t17, t18, t19, t20, t21, t22, t23, t24, t25, t26, t27, t28, t29, t30, t31, t32, t33, t34, t35, t36, t37, t38, t39, t40, t41, t42, t43, t44, t45, t46, t47, t48, t49, t50, t51, t52, t53, t54, t55, t56, t57, t58, t59, t60, t61, t62, t63, t64, t65, t66, t67, t68, t69, t70, t71, t72, t73, t74, t75, t76, t77, t78, t79, t80, t81, t82, t83, t84, t85, t86, t87, t88, t89, t90, t91, t92, t93, t94, t95, t96, t97, t98, t99, t100, t101, t102, t103, t104, t105, t106, t107, t108, t109, t110, t111, t112, t113, t114, t115, t116, t117, t118, t119, t120, t121, t122, t123, t124, t125, t126, t127], []⟩ w6 := by
  unfold chCode
  dsimp only [Tryz.f6, codeR, codeL, Option.getD]
  replace h0x : Hid _ := h0x
  replace h0y : Hid _ := h0y
  have hbz : Below w6.heap.size w6 w6 := Below.refl _ _
  have f0 := kx hb6 0 _ rfl
  have e0 := ky hb6 0 _ rfl
  cases hk : (c.kind == d.kind)
  · have hfin : ChNo A g4 g5 A0 A1 K w6 := ch_no hK ⟨(fun e => by cases e), fun e => by rw [e] at hk; simp at hk⟩ hbz
    clear kx ky few1 h0x h0y hb6 hK p1x p2x p3x p4x p5x p6x p7x p8x p9x p10x p11x p12x p13x p1y p2y p3y p4y p5y p6y p7y p8y p9y p10y p11y p12y p13y hbz
    go_wp2_with fail
    exact hfin _ _ _ _ _ _ _ _ _ _ _ _ _ _ _ _ _ _ _ _ _ _ _ _ _ _ _ _ _ _ _ _ _ _ _ _ _ _ _ _ _ _ _ _ _ _ _ _ _ _ _ _ _ _ _ _ _ _ _ _ _ _ _ _ _ _ _ _ _ _ _ _ _ _ _ _ _ _ _ _ _ _ _ _ _ _ _ _ _ _ _ _ _ _ _ _ _ _ _ _ _ _ _ _ _ _ _ _ _ _ _ _ _ _ _ _ _
  have k0 : Hid (c.kind = d.kind) := (by simpa using hk : c.kind = d.kind)
  have f1 := kx hb6 1 _ rfl
  have e1 := ky hb6 1 _ rfl
  have ht := tell_below (sigs_tell c.sigs d.sigs _ _ w6 (sigsBelow p1x hb6) (sigsBelow p1y hb6) (Nat.le_trans few1.sigs (by decide)))
  go_wp2_with fail
  go_fit ht
  rintro e w7 ⟨⟨b, rfl, hb⟩, hB⟩
  have hz7 := hbz.trans (hB.mono hbz.size)
  have hb7 := hb6.trans (hB.mono hb6.size)
  clear ht hB f0 e0 f1 e1
  cases b
  · have hfin : ChNo A g4 g5 A0 A1 K w7 := ch_no hK ⟨(fun e => by cases e), fun e => absurd (hb.2 (by rw [e])) (by decide)⟩ hz7
    clear kx ky few1 h0x h0y hb6 hK p1x p2x p3x p4x p5x p6x p7x p8x p9x p10x p11x p12x p13x p1y p2y p3y p4y p5y p6y p7y p8y p9y p10y p11y p12y p13y hz7 hb7 hbz k0 hb
    go_wp2_with fail
    exact hfin _ _ _ _ _ _ _ _ _ _ _ _ _ _ _ _ _ _ _ _ _ _ _ _ _ _ _ _ _ _ _ _ _ _ _ _ _ _ _ _ _ _ _ _ _ _ _ _ _ _ _ _ _ _ _ _ _ _ _ _ _ _ _ _ _ _ _ _ _ _ _ _ _ _ _ _ _ _ _ _ _ _ _ _ _ _ _ _ _ _ _ _ _ _ _ _ _ _ _ _ _ _ _ _ _ _ _ _ _ _ _ _ _ _ _ _ _
  have k1 : Hid (c.sigs = d.sigs) := hb.1 rfl
  clear hb
  have f2 := kx hb7 2 _ rfl
  have f3 := kx hb7 3 _ rfl
  have f4 := kx hb7 4 _ rfl
  have f5 := kx hb7 5 _ rfl
  have f6 := kx hb7 6 _ rfl
  have e2 := ky hb7 2 _ rfl
  have e3 := ky hb7 3 _ rfl
  have e4 := ky hb7 4 _ rfl
  have e5 := ky hb7 5 _ rfl
  have e6 := ky hb7 6 _ rfl
  have ht := form_tell (w0 := wb) (w := w7) (v := .agg #[.int .i64 opx, .string namex, .int .i64 valx, .int .i64 boundx, .slice afx argsx.length cfx]) (v2 := .agg #[.int .i64 opy, .string namey, .int .i64 valy, .int .i64 boundy, .slice afy argsy.length cfy]) (f := c.form) (g := d.form) (by rw [h0x]; exact ⟨_, rfl, p2x⟩) (by rw [h0y]; exact ⟨_, rfl, p2y⟩) hb7 (Nat.le_trans few1.form (by decide))
  go_wp2_with fail
  go_fit ht
  rintro e w8 ⟨⟨b, rfl, hb⟩, hB⟩
  have hz8 := hz7.trans (hB.mono hz7.size)
  have hb8 := hb7.trans (hB.mono hb7.size)
  clear ht hB f2 e2 f3 e3 f4 e4 f5 e5 f6 e6
  cases b
  · have hfin : ChNo A g4 g5 A0 A1 K w8 := ch_no hK ⟨(fun e => by cases e), fun e => absurd (hb.2 (by rw [e])) (by decide)⟩ hz8
    clear kx ky few1 h0x h0y hb6 hK p1x p2x p3x p4x p5x p6x p7x p8x p9x p10x p11x p12x p13x p1y p2y p3y p4y p5y p6y p7y p8y p9y p10y p11y p12y p13y hz7 hz8 hb7 hb8 hbz k0 k1 hb
    go_wp2_with fail
    exact hfin _ _ _ _ _ _ _ _ _ _ _ _ _ _ _ _ _ _ _ _ _ _ _ _ _ _ _ _ _ _ _ _ _ _ _ _ _ _ _ _ _ _ _ _ _ _ _ _ _ _ _ _ _ _ _ _ _ _ _ _ _ _ _ _ _ _ _ _ _ _ _ _ _ _ _ _ _ _ _ _ _ _ _ _ _ _ _ _ _ _ _ _ _ _ _ _ _ _ _ _ _ _ _ _ _ _ _ _ _ _ _ _ _ _ _ _ _
  have k2 : Hid (c.form = d.form) := hb.1 rfl
  clear hb
  have f22 := kx hb8 22 _ rfl
  have e22 := ky hb8 22 _ rfl
  have ht := letters_tell w8 (p12x.below hb8) (p12y.below hb8) few1.letters
  go_wp2_with fail
  go_fit ht
  rintro e w9 ⟨⟨b, rfl, hb⟩, hB⟩
  have hz9 := hz8.trans (hB.mono hz8.size)
  have hb9 := hb8.trans (hB.mono hb8.size)
  clear ht hB f22 e22
  cases b
  · have hfin : ChNo A g4 g5 A0 A1 K w9 := ch_no hK ⟨(fun e => by cases e), fun e => absurd (hb.2 (by rw [e])) (by decide)⟩ hz9
    clear kx ky few1 h0x h0y hb6 hK p1x p2x p3x p4x p5x p6x p7x p8x p9x p10x p11x p12x p13x p1y p2y p3y p4y p5y p6y p7y p8y p9y p10y p11y p12y p13y hz7 hz8 hz9 hb7 hb8 hb9 hbz k0 k1 k2 hb
    go_wp2_with fail
    exact hfin _ _ _ _ _ _ _ _ _ _ _ _ _ _ _ _ _ _ _ _ _ _ _ _ _ _ _ _ _ _ _ _ _ _ _ _ _ _ _ _ _ _ _ _ _ _ _ _ _ _ _ _ _ _ _ _ _ _ _ _ _ _ _ _ _ _ _ _ _ _ _ _ _ _ _ _ _ _ _ _ _ _ _ _ _ _ _ _ _ _ _ _ _ _ _ _ _ _ _ _ _ _ _ _ _ _ _ _ _ _ _ _ _ _ _ _ _
  have k3 : Hid (c.letters = d.letters) := hb.1 rfl
  clear hb
  have f23 := kx hb9 23 _ rfl
  have e23 := ky hb9 23 _ rfl
  have ht := forms_tell (p13x.below hb9) (p13y.below hb9) (Nat.le_trans few1.residuals (by decide))
  go_wp2_with fail
  go_fit ht
  rintro e w10 ⟨⟨b, rfl, hb⟩, hB⟩
  have hz10 := hz9.trans (hB.mono hz9.size)
  have hb10 := hb9.trans (hB.mono hb9.size)
  clear ht hB f23 e23
  cases b
  · have hfin : ChNo A g4 g5 A0 A1 K w10 := ch_no hK ⟨(fun e => by cases e), fun e => absurd (hb.2 (by rw [e])) (by decide)⟩ hz10
    clear kx ky few1 h0x h0y hb6 hK p1x p2x p3x p4x p5x p6x p7x p8x p9x p10x p11x p12x p13x p1y p2y p3y p4y p5y p6y p7y p8y p9y p10y p11y p12y p13y hz7 hz8 hz9 hz10 hb7 hb8 hb9 hb10 hbz k0 k1 k2 k3 hb
    go_wp2_with fail
    exact hfin _ _ _ _ _ _ _ _ _ _ _ _ _ _ _ _ _ _ _ _ _ _ _ _ _ _ _ _ _ _ _ _ _ _ _ _ _ _ _ _ _ _ _ _ _ _ _ _ _ _ _ _ _ _ _ _ _ _ _ _ _ _ _ _ _ _ _ _ _ _ _ _ _ _ _ _ _ _ _ _ _ _ _ _ _ _ _ _ _ _ _ _ _ _ _ _ _ _ _ _ _ _ _ _ _ _ _ _ _ _ _ _ _ _ _ _ _
  have k4 : Hid (c.residuals = d.residuals) := hb.1 rfl
  clear hb
  have f7 := kx hb10 7 _ rfl
  have f8 := kx hb10 8 _ rfl
  have f9 := kx hb10 9 _ rfl
  have f10 := kx hb10 10 _ rfl
  have f11 := kx hb10 11 _ rfl
  have e7 := ky hb10 7 _ rfl
  have e8 := ky hb10 8 _ rfl
  have e9 := ky hb10 9 _ rfl
  have e10 := ky hb10 10 _ rfl
  have e11 := ky hb10 11 _ rfl
  have ht := ctrl_tell (w := w10) (v := .agg #[.int .i64 c.ctrl.ins, .int .i64 c.ctrl.outs, .int .i64 c.ctrl.start, .slice amox c.ctrl.out.length cmox, .slice amnx c.ctrl.next.length cmnx]) (v2 := .agg #[.int .i64 d.ctrl.ins, .int .i64 d.ctrl.outs, .int .i64 d.ctrl.start, .slice amoy d.ctrl.out.length cmoy, .slice amny d.ctrl.next.length cmny]) ⟨_, _, rfl, rowsBelow p3x hb10, rowsBelow p4x hb10⟩ ⟨_, _, rfl, rowsBelow p3y hb10, rowsBelow p4y hb10⟩ few1.c1 few1.c2 few1.c3 few1.c4
  go_wp2_with fail
  go_fit ht
  rintro e w11 ⟨⟨b, rfl, hb⟩, hB⟩
  have hz11 := hz10.trans (hB.mono hz10.size)
  have hb11 := hb10.trans (hB.mono hb10.size)
  clear ht hB f7 e7 f8 e8 f9 e9 f10 e10 f11 e11
  cases b
  · have hfin : ChNo A g4 g5 A0 A1 K w11 := ch_no hK ⟨(fun e => by cases e), fun e => absurd (hb.2 (by rw [e])) (by decide)⟩ hz11
    clear kx ky few1 h0x h0y hb6 hK p1x p2x p3x p4x p5x p6x p7x p8x p9x p10x p11x p12x p13x p1y p2y p3y p4y p5y p6y p7y p8y p9y p10y p11y p12y p13y hz7 hz8 hz9 hz10 hz11 hb7 hb8 hb9 hb10 hb11 hbz k0 k1 k2 k3 k4 hb
    go_wp2_with fail
    exact hfin _ _ _ _ _ _ _ _ _ _ _ _ _ _ _ _ _ _ _ _ _ _ _ _ _ _ _ _ _ _ _ _ _ _ _ _ _ _ _ _ _ _ _ _ _ _ _ _ _ _ _ _ _ _ _ _ _ _ _ _ _ _ _ _ _ _ _ _ _ _ _ _ _ _ _ _ _ _ _ _ _ _ _ _ _ _ _ _ _ _ _ _ _ _ _ _ _ _ _ _ _ _ _ _ _ _ _ _ _ _ _ _ _ _ _ _ _
  have k5 : Hid (c.ctrl = d.ctrl) := hb.1 rfl
  clear hb
  have f12 := kx hb11 12 _ rfl
  have f13 := kx hb11 13 _ rfl
  have f14 := kx hb11 14 _ rfl
  have f15 := kx hb11 15 _ rfl
  have f16 := kx hb11 16 _ rfl
  have e12 := ky hb11 12 _ rfl
  have e13 := ky hb11 13 _ rfl
  have e14 := ky hb11 14 _ rfl
  have e15 := ky hb11 15 _ rfl
  have e16 := ky hb11 16 _ rfl
  have ht := env_tell (w := w11) (v := .agg #[.int .i64 c.env.ins, .int .i64 c.env.outs, .int .i64 c.env.start, .slice aeix c.env.inp.length ceix, .slice aenx c.env.next.length cenx]) (v2 := .agg #[.int .i64 d.env.ins, .int .i64 d.env.outs, .int .i64 d.env.start, .slice aeiy d.env.inp.length ceiy, .slice aeny d.env.next.length ceny]) ⟨_, _, rfl, p5x.below hb11, rowsBelow p6x hb11⟩ ⟨_, _, rfl, p5y.below hb11, rowsBelow p6y hb11⟩ few1.e1 few1.e3 few1.e4
  go_wp2_with fail
  go_fit ht
  rintro e w12 ⟨⟨b, rfl, hb⟩, hB⟩
  have hz12 := hz11.trans (hB.mono hz11.size)
  have hb12 := hb11.trans (hB.mono hb11.size)
  clear ht hB f12 e12 f13 e13 f14 e14 f15 e15 f16 e16
  cases b
  · have hfin : ChNo A g4 g5 A0 A1 K w12 := ch_no hK ⟨(fun e => by cases e), fun e => absurd (hb.2 (by rw [e])) (by decide)⟩ hz12
    clear kx ky few1 h0x h0y hb6 hK p1x p2x p3x p4x p5x p6x p7x p8x p9x p10x p11x p12x p13x p1y p2y p3y p4y p5y p6y p7y p8y p9y p10y p11y p12y p13y hz7 hz8 hz9 hz10 hz11 hz12 hb7 hb8 hb9 hb10 hb11 hb12 hbz k0 k1 k2 k3 k4 k5 hb
    go_wp2_with fail
    exact hfin _ _ _ _ _ _ _ _ _ _ _ _ _ _ _ _ _ _ _ _ _ _ _ _ _ _ _ _ _ _ _ _ _ _ _ _ _ _ _ _ _ _ _ _ _ _ _ _ _ _ _ _ _ _ _ _ _ _ _ _ _ _ _ _ _ _ _ _ _ _ _ _ _ _ _ _ _ _ _ _ _ _ _ _ _ _ _ _ _ _ _ _ _ _ _ _ _ _ _ _ _ _ _ _ _ _ _ _ _ _ _ _ _ _ _ _ _
  have k6 : Hid (c.env = d.env) := hb.1 rfl
  clear hb
  have f18 := kx hb12 18 _ rfl
  have f19 := kx hb12 19 _ rfl
  have f20 := kx hb12 20 _ rfl
  have e18 := ky hb12 18 _ rfl
  have e19 := ky hb12 19 _ rfl
  have e20 := ky hb12 20 _ rfl
  have ht := game_tell (w := w12) (v := .agg #[.slice agox c.game.owner.length cgox, .slice agpx c.game.prio.length cgpx, .slice agsx c.game.succ.length cgsx]) (v2 := .agg #[.slice agoy d.game.owner.length cgoy, .slice agpy d.game.prio.length cgpy, .slice agsy d.game.succ.length cgsy]) ⟨_, _, _, rfl, p8x.below hb12, p9x.below hb12, rowsBelow p10x hb12⟩ ⟨_, _, _, rfl, p8y.below hb12, p9y.below hb12, rowsBelow p10y hb12⟩ few1.g1 few1.g2 few1.g3 few1.g4
  go_wp2_with fail
  go_fit ht
  rintro e w13 ⟨⟨b, rfl, hb⟩, hB⟩
  have hz13 := hz12.trans (hB.mono hz12.size)
  have hb13 := hb12.trans (hB.mono hb12.size)
  clear ht hB f18 e18 f19 e19 f20 e20
  cases b
  · have hfin : ChNo A g4 g5 A0 A1 K w13 := ch_no hK ⟨(fun e => by cases e), fun e => absurd (hb.2 (by rw [e])) (by decide)⟩ hz13
    clear kx ky few1 h0x h0y hb6 hK p1x p2x p3x p4x p5x p6x p7x p8x p9x p10x p11x p12x p13x p1y p2y p3y p4y p5y p6y p7y p8y p9y p10y p11y p12y p13y hz7 hz8 hz9 hz10 hz11 hz12 hz13 hb7 hb8 hb9 hb10 hb11 hb12 hb13 hbz k0 k1 k2 k3 k4 k5 k6 hb
    go_wp2_with fail
    exact hfin _ _ _ _ _ _ _ _ _ _ _ _ _ _ _ _ _ _ _ _ _ _ _ _ _ _ _ _ _ _ _ _ _ _ _ _ _ _ _ _ _ _ _ _ _ _ _ _ _ _ _ _ _ _ _ _ _ _ _ _ _ _ _ _ _ _ _ _ _ _ _ _ _ _ _ _ _ _ _ _ _ _ _ _ _ _ _ _ _ _ _ _ _ _ _ _ _ _ _ _ _ _ _ _ _ _ _ _ _ _ _ _ _ _ _ _ _
  have k7 : Hid (c.game = d.game) := hb.1 rfl
  clear hb
  have f21 := kx hb13 21 _ rfl
  have e21 := ky hb13 21 _ rfl
  have ht := tell_dec (rows_quiet27 c.measure d.measure _ _ w13 (rowsBelow p11x hb13) (rowsBelow p11y hb13) few1.m1 few1.m2)
  go_wp2_with fail
  go_fit ht
  rintro e w14 ⟨⟨b, rfl, hb⟩, hB⟩
  have hz14 := hz13.trans (hB.mono hz13.size)
  have hb14 := hb13.trans (hB.mono hb13.size)
  clear ht hB f21 e21
  cases b
  · have hfin : ChNo A g4 g5 A0 A1 K w14 := ch_no hK ⟨(fun e => by cases e), fun e => absurd (hb.2 (by rw [e])) (by decide)⟩ hz14
    clear kx ky few1 h0x h0y hb6 hK p1x p2x p3x p4x p5x p6x p7x p8x p9x p10x p11x p12x p13x p1y p2y p3y p4y p5y p6y p7y p8y p9y p10y p11y p12y p13y hz7 hz8 hz9 hz10 hz11 hz12 hz13 hz14 hb7 hb8 hb9 hb10 hb11 hb12 hb13 hb14 hbz k0 k1 k2 k3 k4 k5 k6 k7 hb
    go_wp2_with fail
    exact hfin _ _ _ _ _ _ _ _ _ _ _ _ _ _ _ _ _ _ _ _ _ _ _ _ _ _ _ _ _ _ _ _ _ _ _ _ _ _ _ _ _ _ _ _ _ _ _ _ _ _ _ _ _ _ _ _ _ _ _ _ _ _ _ _ _ _ _ _ _ _ _ _ _ _ _ _ _ _ _ _ _ _ _ _ _ _ _ _ _ _ _ _ _ _ _ _ _ _ _ _ _ _ _ _ _ _ _ _ _ _ _ _ _ _ _ _ _
  have k8 : Hid (c.measure = d.measure) := hb.1 rfl
  clear hb
  have f17 := kx hb14 17 _ rfl
  have e17 := ky hb14 17 _ rfl
  have ht := tell_below (spots_tell c.spots d.spots _ _ w14 (spotsBelow p7x hb14) (spotsBelow p7y hb14) few1.s1 few1.s2)
  go_wp2_with fail
  go_fit ht
  rintro e w15 ⟨⟨b, rfl, hb⟩, hB⟩
  have hz15 := hz14.trans (hB.mono hz14.size)
  have hb15 := hb14.trans (hB.mono hb14.size)
  clear ht hB f17 e17
  go_wp2_with fail
  exact hK b _ _ _ _ _ _ _ _ _ _ _ _ _ _ _ _ _ _ _ _ _ _ _ _ _ _ _ _ _ _ _ _ _ _ _ _ _ _ _ _ _ _ _ _ _ _ _ _ _ _ _ _ _ _ _ _ _ _ _ _ _ _ _ _ _ _ _ _ _ _ _ _ _ _ _ _ _ _ _ _ _ _ _ _ _ _ _ _ _ _ _ _ _ _ _ _ _ _ _ _ _ _ _ _ _ _ _ _ _ _ _ _ _ _ _ _ _ _ ⟨fun e => claim_ext k0 k1 k2 k3 k4 k5 k6 k7 k8 (hb.1 e), fun e => hb.2 (by rw [e])⟩ hz15
end Go.Proofs.YtcedalofcekdkaaGreatDoor
end
