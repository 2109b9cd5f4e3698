/- The switch of Encode. -/
import Derived.Test.YtcedalofcekdkaaGreatDoorPlainA
import Derived.Test.YtcedalofcekdkaaGreatDoorEqB
import Derived.Test.YtcedalofcekdkaaGreatDoorCtrlW
import Derived.Test.YtcedalofcekdkaaGreatDoorWrA
import Derived.Test.YtcedalofcekdkaaGreatDoorRegionW
import Derived.Test.YtcedalofcekdkaaGreatDoorSizeA
import Derived.Deep.CutBlock
import Derived.Deep.CutRange
set_option linter.unusedSimpArgs false
set_option linter.unusedVariables false
section
namespace Go.Proofs.YtcedalofcekdkaaGreatDoor
open Go.RowKit

def codeL : Code → Code
  | .seq a _ => a
  | c => c
def codeR : Code → Code
  | .seq _ b => b
  | c => c

noncomputable def swCode : Code := codeR (codeL (codeR (codeR (codeR (codeR (codeR (codeR (codeR (codeR (codeR (codeR (Tryz.f20.body.getD Code.skip))))))))))))

def SwPost (c : ClaimD) (wb : World) (A g : Nat) (A0 : Value) (b0 b1 b2 b3 nK : Bool) (K : Act → World → Prop) : Prop :=
  ∀ (f : Bool) (wx : World) (o : Option Nat) (nums : List Int) (x y : Bool) (s11 s12 s13 s14 s15 s16 s17 s18 s19 s20 s21 s22 s23 s24 s25 s26 s27 s28 s29 s30 s31 s32 s33 s34 s35 s36 s37 s38 s39 s40 s41 s42 s43 s44 s45 s46 s47 s48 s49 s50 s51 s52 s53 s54 s55 s56 s57 s58 s59 s60 s61 s62 s63 s64 s65 s66 s67 s68 s69 s70 s71 s72 s73 s74 s75 s76 s77 s78 s79 s80 s81 s82 s83 s84 s85 s86 s87 s88 s89 s90 s91 s92 s93 s94 s95 s96 s97 s98 s99 s100 s101 s102 s103 s104 s105 s106 s107 s108 s109 s110 s111 s112 s113 s114 s115 s116 s117 s118 s119 s120 s121 s122 s123 s124 s125 s126 s127 s128 s129 s130 s131 s132 s133 s134 s135 s136 s137 s138 s139 s140 s141 s142 s143 s144 s145 s146 s147 s148 s149 s150 s151 s152 s153 s154 s155 s156 s157 s158 s159 s160 s161 s162 s163 s164 s165 s166 s167 s168 s169 s170 s171 s172 s173 s174 s175 s176 s177 s178 s179 s180 s181 s182 s183 s184 s185 s186 s187 s188 s189 s190 s191 s192 s193 s194 s195 s196 s197 s198 s199 s200 s201 s202 s203 s204 s205 s206 s207 s208 s209 s210 s211 s212 s213 s214 s215 s216 s217 s218 : Value), Wr wx wb.heap.size g o nums x y → Below wb.heap.size wb wx → EncEnd c f x nums →
    K ⟨#[A0, .pointer (some ⟨A, 0, none⟩), .pointer (some ⟨A + 1, 0, none⟩), .int .i64 0, .bool b0, .bool b1, .bool b2, .bool b3, .bool nK, .pointer (some ⟨g, 0, none⟩), .bool f, s11, s12, s13, s14, s15, s16, s17, s18, s19, s20, s21, s22, s23, s24, s25, s26, s27, s28, s29, s30, s31, s32, s33, s34, s35, s36, s37, s38, s39, s40, s41, s42, s43, s44, s45, s46, s47, s48, s49, s50, s51, s52, s53, s54, s55, s56, s57, s58, s59, s60, s61, s62, s63, s64, s65, s66, s67, s68, s69, s70, s71, s72, s73, s74, s75, s76, s77, s78, s79, s80, s81, s82, s83, s84, s85, s86, s87, s88, s89, s90, s91, s92, s93, s94, s95, s96, s97, s98, s99, s100, s101, s102, s103, s104, s105, s106, s107, s108, s109, s110, s111, s112, s113, s114, s115, s116, s117, s118, s119, s120, s121, s122, s123, s124, s125, s126, s127, s128, s129, s130, s131, s132, s133, s134, s135, s136, s137, s138, s139, s140, s141, s142, s143, s144, s145, s146, s147, s148, s149, s150, s151, s152, s153, s154, s155, s156, s157, s158, s159, s160, s161, s162, s163, s164, s165, s166, s167, s168, s169, s170, s171, s172, s173, s174, s175, s176, s177, s178, s179, s180, s181, s182, s183, s184, s185, s186, s187, s188, s189, s190, s191, s192, s193, s194, s195, s196, s197, s198, s199, s200, s201, s202, s203, s204, s205, s206, s207, s208, s209, s210, s211, s212, s213, s214, s215, s216, s217, s218], []⟩ wx
end Go.Proofs.YtcedalofcekdkaaGreatDoor
end

section
namespace Go.Proofs.YtcedalofcekdkaaGreatDoor
open Go.RowKit

set_option linter.unusedVariables false in
set_option maxHeartbeats 12800000 in
set_option maxRecDepth 1000000 in
theorem sw1 {wb w9 : World} {A g : Nat} {c : ClaimD} {op val bound : Int} {name : ByteArray} {args : List FT} {asg af amo amn aei aen asp ago agp ags ame ale are : Option Addr} {cs1 cf cmo cmn cei cen csp cgo cgp cgs cme cle cre : Nat}
    (hroom : Room c) (h0 : Hid (c.form = FT.node op name val bound args)) (keep : ∀ {w2 : World}, Below wb.heap.size wb w2 → ∀ i x, (#[Value.int .i64 c.kind, Value.slice asg c.sigs.length cs1, Value.int .i64 op, Value.string name, Value.int .i64 val, Value.int .i64 bound, Value.slice af args.length cf, Value.int .i64 c.ctrl.ins, Value.int .i64 c.ctrl.outs, Value.int .i64 c.ctrl.start, Value.slice amo c.ctrl.out.length cmo, Value.slice amn c.ctrl.next.length cmn, Value.int .i64 c.env.ins, Value.int .i64 c.env.outs, Value.int .i64 c.env.start, Value.slice aei c.env.inp.length cei, Value.slice aen c.env.next.length cen, Value.slice asp c.spots.length csp, Value.slice ago c.game.owner.length cgo, Value.slice agp c.game.prio.length cgp, Value.slice ags c.game.succ.length cgs, Value.slice ame c.measure.length cme, Value.slice ale c.letters.length cle, Value.slice are c.residuals.length cre])[i]? = some x → w2.cell? ⟨A, i, none⟩ = some x)
    (p3 : RowsV wb (Value.slice amo c.ctrl.out.length cmo) c.ctrl.out) (p4 : RowsV wb (Value.slice amn c.ctrl.next.length cmn) c.ctrl.next) (p5 : IntsV wb (Value.slice aei c.env.inp.length cei) c.env.inp) (p6 : RowsV wb (Value.slice aen c.env.next.length cen) c.env.next) (p7 : SpotsV wb (Value.slice asp c.spots.length csp) c.spots) (p8 : IntsV wb (Value.slice ago c.game.owner.length cgo) c.game.owner) (p9 : IntsV wb (Value.slice agp c.game.prio.length cgp) c.game.prio) (p10 : RowsV wb (Value.slice ags c.game.succ.length cgs) c.game.succ) (p11 : RowsV wb (Value.slice ame c.measure.length cme) c.measure) (p12 : IntsV wb (Value.slice ale c.letters.length cle) c.letters) (p13 : FormsV wb (Value.slice are c.residuals.length cre) c.residuals)
    (hpl : (encPre c).length ≤ 20000010) {b0 b1 b2 b3 nK : Bool} (hnK : Hid (nK = true → c.sigs.length = 0 ∧ FT.node op name val bound args = emptyF))
    (hB0 : Hid (decide (∀ x ∈ [c.ctrl.ins, c.ctrl.outs, c.ctrl.start, (c.ctrl.out.length : Int), (c.ctrl.next.length : Int)], x = 0) = b0)) (hB1 : Hid (decide (∀ x ∈ [c.env.ins, c.env.outs, c.env.start, (c.env.inp.length : Int), (c.env.next.length : Int)], x = 0) = b1)) (hB2 : Hid (decide (∀ x ∈ [(c.game.owner.length : Int), (c.game.prio.length : Int), (c.game.succ.length : Int), (c.measure.length : Int)], x = 0) = b2)) (hB3 : Hid (decide (∀ x ∈ [(c.letters.length : Int), (c.residuals.length : Int)], x = 0) = b3))
    {o : Option Nat} {y : Bool} (hw : Wr w9 wb.heap.size g o (encPre c) ((encPre c).any bad) y) (hb : Below wb.heap.size wb w9) {K : Act → World → Prop} {X} {A0 : Value} (hK : SwPost c wb A g A0 b0 b1 b2 b3 nK K) {t11 t12 t13 t14 t15 t16 t17 t18 t19 t20 t21 t22 t23 t24 t25 t26 t27 t28 t29 t30 t31 t32 t33 t34 t35 t36 t37 t38 t39 t40 t41 t42 t43 t44 t45 t46 t47 t48 t49 t50 t51 t52 t53 t54 t55 t56 t57 t58 t59 t60 t61 t62 t63 t64 t65 t66 t67 t68 t69 t70 t71 t72 t73 t74 t75 t76 t77 t78 t79 t80 t81 t82 t83 t84 t85 t86 t87 t88 t89 t90 t91 t92 t93 t94 t95 t96 t97 t98 t99 t100 t102 t103 t104 t105 t106 t107 t108 t109 t110 t111 t112 t113 t114 t115 t116 t117 t118 t119 t120 t121 t122 t123 t124 t125 t126 t127 t128 t129 t130 t131 t132 t133 t134 t135 t136 t137 t138 t139 t140 t141 t142 t143 t144 t145 t146 t147 t148 t149 t150 t151 t152 t153 t154 t155 t156 t157 t158 t159 t160 t161 t162 t163 t164 t165 t166 t167 t168 t169 t170 t171 t172 t173 t174 t175 t176 t177 t178 t179 t180 t181 t182 t183 t184 t185 t186 t187 t188 t189 t190 t191 t192 t193 t194 t195 t196 t197 t198 t199 t200 t201 t202 t203 t204 t205 t206 t207 t208 t209 t210 t211 t212 t213 t214 t215 t216 t217 t218 : Value} (hk : Hid (c.kind = 1)) :
    Code.wp Tryz.prog swCode (Exit.then K X) ⟨#[A0, .pointer (some ⟨A, 0, none⟩), .pointer (some ⟨A + 1, 0, none⟩), .int .i64 0, .bool b0, .bool b1, .bool b2, .bool b3, .bool nK, .pointer (some ⟨g, 0, none⟩), .bool false, t11, t12, t13, t14, t15, t16, t17, t18, t19, t20, t21, t22, t23, t24, t25, t26, t27, t28, t29, t30, t31, t32, t33, t34, t35, t36, t37, t38, t39, t40, t41, t42, t43, t44, t45, t46, t47, t48, t49, t50, t51, t52, t53, t54, t55, t56, t57, t58, t59, t60, t61, t62, t63, t64, t65, t66, t67, t68, t69, t70, t71, t72, t73, t74, t75, t76, t77, t78, t79, t80, t81, t82, t83, t84, t85, t86, t87, t88, t89, t90, t91, t92, t93, t94, t95, t96, t97, t98, t99, t100, .int .i64 c.kind, t102, t103, t104, t105, t106, t107, t108, t109, t110, t111, t112, t113, t114, t115, t116, t117, t118, t119, t120, t121, t122, t123, t124, t125, t126, t127, t128, t129, t130, t131, t132, t133, t134, t135, t136, t137, t138, t139, t140, t141, t142, t143, t144, t145, t146, t147, t148, t149, t150, t151, t152, t153, t154, t155, t156, t157, t158, t159, t160, t161, t162, t163, t164, t165, t166, t167, t168, t169, t170, t171, t172, t173, t174, t175, t176, t177, t178, t179, t180, t181, t182, t183, t184, t185, t186, t187, t188, t189, t190, t191, t192, t193, t194, t195, t196, t197, t198, t199, t200, t201, t202, t203, t204, t205, t206, t207, t208, t209, t210, t211, t212, t213, t214, t215, t216, t217, t218], []⟩ w9 := by
  unfold swCode
  dsimp only [Tryz.f20, codeR, codeL, Option.getD]
  have q1 : (c.kind == 1) = true := by have hk : c.kind = 1 := hk; simp [hk]
  go_upto_region 14 with fail
  go_cut [10] from 104 to 110 (fun c10 wx => c10 = .bool (b1 && b2 && b3) ∧ wx = w9)
  case first => cases b1 <;> cases b2 <;> cases b3 <;> (go_wp2_with fail; go_meet; case rel => exact ⟨rfl, rfl⟩)
  case rest =>
  obtain ⟨rfl, hwx⟩ := hcut
  subst hwx
  have f7 := keep hb 7 _ rfl
  have f8 := keep hb 8 _ rfl
  have f9 := keep hb 9 _ rfl
  have f10 := keep hb 10 _ rfl
  have f11 := keep hb 11 _ rfl
  have hct := ctrl_calls (w0 := wb) hw (v := .agg #[.int .i64 c.ctrl.ins, .int .i64 c.ctrl.outs, .int .i64 c.ctrl.start, .slice amo c.ctrl.out.length cmo, .slice amn c.ctrl.next.length cmn]) ⟨_, _, rfl, p3, p4⟩ hb (by have := hroom.ctrl; omega)
  go_wp2_with fail
  go_fit hct
  rintro e w10 ⟨rfl, o10, x10, n10, hw10, hk10, hl10, hs10⟩
  have hb10 := Below.kept hb hw hb.size hk10
  clear hct f7 f8 f9 f10 f11
  have f17 := keep hb10 17 _ rfl
  have hst := spots_calls (w0 := wb) hw10 p7 hb10 (by have := hroom.spots; have := hroom.ctrl; omega)
  go_wp2_with fail
  go_fit hst
  rintro e w11 ⟨rfl, o11, y11, hw11, hk11⟩
  have hb11 := Below.kept hb10 hw10 hb10.size hk11
  clear hst f17
  go_wp2_with fail
  exact hK _ _ _ _ _ _ _ _ _ _ _ _ _ _ _ _ _ _ _ _ _ _ _ _ _ _ _ _ _ _ _ _ _ _ _ _ _ _ _ _ _ _ _ _ _ _ _ _ _ _ _ _ _ _ _ _ _ _ _ _ _ _ _ _ _ _ _ _ _ _ _ _ _ _ _ _ _ _ _ _ _ _ _ _ _ _ _ _ _ _ _ _ _ _ _ _ _ _ _ _ _ _ _ _ _ _ _ _ _ _ _ _ _ _ _ _ _ _ _ _ _ _ _ _ _ _ _ _ _ _ _ _ _ _ _ _ _ _ _ _ _ _ _ _ _ _ _ _ _ _ _ _ _ _ _ _ _ _ _ _ _ _ _ _ _ _ _ _ _ _ _ _ _ _ _ _ _ _ _ _ _ _ _ _ _ _ _ _ _ _ _ _ _ _ _ _ _ _ _ _ _ _ _ _ _ _ _ _ _ _ _ _ _ _ hw11 hb11 (end1 hk hs10 (fun e => by simp only [Bool.and_eq_true] at e; exact ⟨zeros_env (of_decide_eq_true (hB1.trans e.1.1)), zeros_game (of_decide_eq_true (hB2.trans e.1.2)), zeros_word (of_decide_eq_true (hB3.trans e.2))⟩))
end Go.Proofs.YtcedalofcekdkaaGreatDoor
end

section
namespace Go.Proofs.YtcedalofcekdkaaGreatDoor
open Go.RowKit

set_option linter.unusedVariables false in
set_option maxHeartbeats 12800000 in
set_option maxRecDepth 1000000 in
theorem sw2 {wb w9 : World} {A g : Nat} {c : ClaimD} {op val bound : Int} {name : ByteArray} {args : List FT} {asg af amo amn aei aen asp ago agp ags ame ale are : Option Addr} {cs1 cf cmo cmn cei cen csp cgo cgp cgs cme cle cre : Nat}
    (hroom : Room c) (h0 : Hid (c.form = FT.node op name val bound args)) (keep : ∀ {w2 : World}, Below wb.heap.size wb w2 → ∀ i x, (#[Value.int .i64 c.kind, Value.slice asg c.sigs.length cs1, Value.int .i64 op, Value.string name, Value.int .i64 val, Value.int .i64 bound, Value.slice af args.length cf, Value.int .i64 c.ctrl.ins, Value.int .i64 c.ctrl.outs, Value.int .i64 c.ctrl.start, Value.slice amo c.ctrl.out.length cmo, Value.slice amn c.ctrl.next.length cmn, Value.int .i64 c.env.ins, Value.int .i64 c.env.outs, Value.int .i64 c.env.start, Value.slice aei c.env.inp.length cei, Value.slice aen c.env.next.length cen, Value.slice asp c.spots.length csp, Value.slice ago c.game.owner.length cgo, Value.slice agp c.game.prio.length cgp, Value.slice ags c.game.succ.length cgs, Value.slice ame c.measure.length cme, Value.slice ale c.letters.length cle, Value.slice are c.residuals.length cre])[i]? = some x → w2.cell? ⟨A, i, none⟩ = some x)
    (p3 : RowsV wb (Value.slice amo c.ctrl.out.length cmo) c.ctrl.out) (p4 : RowsV wb (Value.slice amn c.ctrl.next.length cmn) c.ctrl.next) (p5 : IntsV wb (Value.slice aei c.env.inp.length cei) c.env.inp) (p6 : RowsV wb (Value.slice aen c.env.next.length cen) c.env.next) (p7 : SpotsV wb (Value.slice asp c.spots.length csp) c.spots) (p8 : IntsV wb (Value.slice ago c.game.owner.length cgo) c.game.owner) (p9 : IntsV wb (Value.slice agp c.game.prio.length cgp) c.game.prio) (p10 : RowsV wb (Value.slice ags c.game.succ.length cgs) c.game.succ) (p11 : RowsV wb (Value.slice ame c.measure.length cme) c.measure) (p12 : IntsV wb (Value.slice ale c.letters.length cle) c.letters) (p13 : FormsV wb (Value.slice are c.residuals.length cre) c.residuals)
    (hpl : (encPre c).length ≤ 20000010) {b0 b1 b2 b3 nK : Bool} (hnK : Hid (nK = true → c.sigs.length = 0 ∧ FT.node op name val bound args = emptyF))
    (hB0 : Hid (decide (∀ x ∈ [c.ctrl.ins, c.ctrl.outs, c.ctrl.start, (c.ctrl.out.length : Int), (c.ctrl.next.length : Int)], x = 0) = b0)) (hB1 : Hid (decide (∀ x ∈ [c.env.ins, c.env.outs, c.env.start, (c.env.inp.length : Int), (c.env.next.length : Int)], x = 0) = b1)) (hB2 : Hid (decide (∀ x ∈ [(c.game.owner.length : Int), (c.game.prio.length : Int), (c.game.succ.length : Int), (c.measure.length : Int)], x = 0) = b2)) (hB3 : Hid (decide (∀ x ∈ [(c.letters.length : Int), (c.residuals.length : Int)], x = 0) = b3))
    {o : Option Nat} {y : Bool} (hw : Wr w9 wb.heap.size g o (encPre c) ((encPre c).any bad) y) (hb : Below wb.heap.size wb w9) {K : Act → World → Prop} {X} {A0 : Value} (hK : SwPost c wb A g A0 b0 b1 b2 b3 nK K) {t11 t12 t13 t14 t15 t16 t17 t18 t19 t20 t21 t22 t23 t24 t25 t26 t27 t28 t29 t30 t31 t32 t33 t34 t35 t36 t37 t38 t39 t40 t41 t42 t43 t44 t45 t46 t47 t48 t49 t50 t51 t52 t53 t54 t55 t56 t57 t58 t59 t60 t61 t62 t63 t64 t65 t66 t67 t68 t69 t70 t71 t72 t73 t74 t75 t76 t77 t78 t79 t80 t81 t82 t83 t84 t85 t86 t87 t88 t89 t90 t91 t92 t93 t94 t95 t96 t97 t98 t99 t100 t102 t103 t104 t105 t106 t107 t108 t109 t110 t111 t112 t113 t114 t115 t116 t117 t118 t119 t120 t121 t122 t123 t124 t125 t126 t127 t128 t129 t130 t131 t132 t133 t134 t135 t136 t137 t138 t139 t140 t141 t142 t143 t144 t145 t146 t147 t148 t149 t150 t151 t152 t153 t154 t155 t156 t157 t158 t159 t160 t161 t162 t163 t164 t165 t166 t167 t168 t169 t170 t171 t172 t173 t174 t175 t176 t177 t178 t179 t180 t181 t182 t183 t184 t185 t186 t187 t188 t189 t190 t191 t192 t193 t194 t195 t196 t197 t198 t199 t200 t201 t202 t203 t204 t205 t206 t207 t208 t209 t210 t211 t212 t213 t214 t215 t216 t217 t218 : Value} (hk : Hid (c.kind = 2)) :
    Code.wp Tryz.prog swCode (Exit.then K X) ⟨#[A0, .pointer (some ⟨A, 0, none⟩), .pointer (some ⟨A + 1, 0, none⟩), .int .i64 0, .bool b0, .bool b1, .bool b2, .bool b3, .bool nK, .pointer (some ⟨g, 0, none⟩), .bool false, t11, t12, t13, t14, t15, t16, t17, t18, t19, t20, t21, t22, t23, t24, t25, t26, t27, t28, t29, t30, t31, t32, t33, t34, t35, t36, t37, t38, t39, t40, t41, t42, t43, t44, t45, t46, t47, t48, t49, t50, t51, t52, t53, t54, t55, t56, t57, t58, t59, t60, t61, t62, t63, t64, t65, t66, t67, t68, t69, t70, t71, t72, t73, t74, t75, t76, t77, t78, t79, t80, t81, t82, t83, t84, t85, t86, t87, t88, t89, t90, t91, t92, t93, t94, t95, t96, t97, t98, t99, t100, .int .i64 c.kind, t102, t103, t104, t105, t106, t107, t108, t109, t110, t111, t112, t113, t114, t115, t116, t117, t118, t119, t120, t121, t122, t123, t124, t125, t126, t127, t128, t129, t130, t131, t132, t133, t134, t135, t136, t137, t138, t139, t140, t141, t142, t143, t144, t145, t146, t147, t148, t149, t150, t151, t152, t153, t154, t155, t156, t157, t158, t159, t160, t161, t162, t163, t164, t165, t166, t167, t168, t169, t170, t171, t172, t173, t174, t175, t176, t177, t178, t179, t180, t181, t182, t183, t184, t185, t186, t187, t188, t189, t190, t191, t192, t193, t194, t195, t196, t197, t198, t199, t200, t201, t202, t203, t204, t205, t206, t207, t208, t209, t210, t211, t212, t213, t214, t215, t216, t217, t218], []⟩ w9 := by
  unfold swCode
  dsimp only [Tryz.f20, codeR, codeL, Option.getD]
  have q1 : (c.kind == 1) = false := by have hk : c.kind = 2 := hk; simp [hk]
  have q2 : (c.kind == 2) = true := by have hk : c.kind = 2 := hk; simp [hk]
  go_upto_region 18 with fail
  go_cut [10] from 119 to 125 (fun c10 wx => c10 = .bool (b0 && b2 && b3) ∧ wx = w9)
  case first => cases b0 <;> cases b2 <;> cases b3 <;> (go_wp2_with fail; go_meet; case rel => exact ⟨rfl, rfl⟩)
  case rest =>
  obtain ⟨rfl, hwx⟩ := hcut
  subst hwx
  have f12 := keep hb 12 _ rfl
  have f13 := keep hb 13 _ rfl
  have f14 := keep hb 14 _ rfl
  have f15 := keep hb 15 _ rfl
  have f16 := keep hb 16 _ rfl
  have hct := env_calls (w0 := wb) hw (v := .agg #[.int .i64 c.env.ins, .int .i64 c.env.outs, .int .i64 c.env.start, .slice aei c.env.inp.length cei, .slice aen c.env.next.length cen]) ⟨_, _, rfl, p5, p6⟩ hb (by have := hroom.env; omega)
  go_wp2_with fail
  go_fit hct
  rintro e w10 ⟨rfl, o10, x10, n10, hw10, hk10, hl10, hs10⟩
  have hb10 := Below.kept hb hw hb.size hk10
  clear hct f12 f13 f14 f15 f16
  have f17 := keep hb10 17 _ rfl
  have hst := spots_calls (w0 := wb) hw10 p7 hb10 (by have := hroom.spots; have := hroom.env; omega)
  go_wp2_with fail
  go_fit hst
  rintro e w11 ⟨rfl, o11, y11, hw11, hk11⟩
  have hb11 := Below.kept hb10 hw10 hb10.size hk11
  clear hst f17
  go_wp2_with fail
  exact hK _ _ _ _ _ _ _ _ _ _ _ _ _ _ _ _ _ _ _ _ _ _ _ _ _ _ _ _ _ _ _ _ _ _ _ _ _ _ _ _ _ _ _ _ _ _ _ _ _ _ _ _ _ _ _ _ _ _ _ _ _ _ _ _ _ _ _ _ _ _ _ _ _ _ _ _ _ _ _ _ _ _ _ _ _ _ _ _ _ _ _ _ _ _ _ _ _ _ _ _ _ _ _ _ _ _ _ _ _ _ _ _ _ _ _ _ _ _ _ _ _ _ _ _ _ _ _ _ _ _ _ _ _ _ _ _ _ _ _ _ _ _ _ _ _ _ _ _ _ _ _ _ _ _ _ _ _ _ _ _ _ _ _ _ _ _ _ _ _ _ _ _ _ _ _ _ _ _ _ _ _ _ _ _ _ _ _ _ _ _ _ _ _ _ _ _ _ _ _ _ _ _ _ _ _ _ _ _ _ _ _ _ _ _ hw11 hb11 (end2 hk hs10 (fun e => by simp only [Bool.and_eq_true] at e; exact ⟨zeros_ctrl (of_decide_eq_true (hB0.trans e.1.1)), zeros_game (of_decide_eq_true (hB2.trans e.1.2)), zeros_word (of_decide_eq_true (hB3.trans e.2))⟩))
end Go.Proofs.YtcedalofcekdkaaGreatDoor
end

section
namespace Go.Proofs.YtcedalofcekdkaaGreatDoor
open Go.RowKit

set_option linter.unusedVariables false in
set_option maxHeartbeats 12800000 in
set_option maxRecDepth 1000000 in
theorem sw3 {wb w9 : World} {A g : Nat} {c : ClaimD} {op val bound : Int} {name : ByteArray} {args : List FT} {asg af amo amn aei aen asp ago agp ags ame ale are : Option Addr} {cs1 cf cmo cmn cei cen csp cgo cgp cgs cme cle cre : Nat}
    (hroom : Room c) (h0 : Hid (c.form = FT.node op name val bound args)) (keep : ∀ {w2 : World}, Below wb.heap.size wb w2 → ∀ i x, (#[Value.int .i64 c.kind, Value.slice asg c.sigs.length cs1, Value.int .i64 op, Value.string name, Value.int .i64 val, Value.int .i64 bound, Value.slice af args.length cf, Value.int .i64 c.ctrl.ins, Value.int .i64 c.ctrl.outs, Value.int .i64 c.ctrl.start, Value.slice amo c.ctrl.out.length cmo, Value.slice amn c.ctrl.next.length cmn, Value.int .i64 c.env.ins, Value.int .i64 c.env.outs, Value.int .i64 c.env.start, Value.slice aei c.env.inp.length cei, Value.slice aen c.env.next.length cen, Value.slice asp c.spots.length csp, Value.slice ago c.game.owner.length cgo, Value.slice agp c.game.prio.length cgp, Value.slice ags c.game.succ.length cgs, Value.slice ame c.measure.length cme, Value.slice ale c.letters.length cle, Value.slice are c.residuals.length cre])[i]? = some x → w2.cell? ⟨A, i, none⟩ = some x)
    (p3 : RowsV wb (Value.slice amo c.ctrl.out.length cmo) c.ctrl.out) (p4 : RowsV wb (Value.slice amn c.ctrl.next.length cmn) c.ctrl.next) (p5 : IntsV wb (Value.slice aei c.env.inp.length cei) c.env.inp) (p6 : RowsV wb (Value.slice aen c.env.next.length cen) c.env.next) (p7 : SpotsV wb (Value.slice asp c.spots.length csp) c.spots) (p8 : IntsV wb (Value.slice ago c.game.owner.length cgo) c.game.owner) (p9 : IntsV wb (Value.slice agp c.game.prio.length cgp) c.game.prio) (p10 : RowsV wb (Value.slice ags c.game.succ.length cgs) c.game.succ) (p11 : RowsV wb (Value.slice ame c.measure.length cme) c.measure) (p12 : IntsV wb (Value.slice ale c.letters.length cle) c.letters) (p13 : FormsV wb (Value.slice are c.residuals.length cre) c.residuals)
    (hpl : (encPre c).length ≤ 20000010) {b0 b1 b2 b3 nK : Bool} (hnK : Hid (nK = true → c.sigs.length = 0 ∧ FT.node op name val bound args = emptyF))
    (hB0 : Hid (decide (∀ x ∈ [c.ctrl.ins, c.ctrl.outs, c.ctrl.start, (c.ctrl.out.length : Int), (c.ctrl.next.length : Int)], x = 0) = b0)) (hB1 : Hid (decide (∀ x ∈ [c.env.ins, c.env.outs, c.env.start, (c.env.inp.length : Int), (c.env.next.length : Int)], x = 0) = b1)) (hB2 : Hid (decide (∀ x ∈ [(c.game.owner.length : Int), (c.game.prio.length : Int), (c.game.succ.length : Int), (c.measure.length : Int)], x = 0) = b2)) (hB3 : Hid (decide (∀ x ∈ [(c.letters.length : Int), (c.residuals.length : Int)], x = 0) = b3))
    {o : Option Nat} {y : Bool} (hw : Wr w9 wb.heap.size g o (encPre c) ((encPre c).any bad) y) (hb : Below wb.heap.size wb w9) {K : Act → World → Prop} {X} {A0 : Value} (hK : SwPost c wb A g A0 b0 b1 b2 b3 nK K) {t11 t12 t13 t14 t15 t16 t17 t18 t19 t20 t21 t22 t23 t24 t25 t26 t27 t28 t29 t30 t31 t32 t33 t34 t35 t36 t37 t38 t39 t40 t41 t42 t43 t44 t45 t46 t47 t48 t49 t50 t51 t52 t53 t54 t55 t56 t57 t58 t59 t60 t61 t62 t63 t64 t65 t66 t67 t68 t69 t70 t71 t72 t73 t74 t75 t76 t77 t78 t79 t80 t81 t82 t83 t84 t85 t86 t87 t88 t89 t90 t91 t92 t93 t94 t95 t96 t97 t98 t99 t100 t102 t103 t104 t105 t106 t107 t108 t109 t110 t111 t112 t113 t114 t115 t116 t117 t118 t119 t120 t121 t122 t123 t124 t125 t126 t127 t128 t129 t130 t131 t132 t133 t134 t135 t136 t137 t138 t139 t140 t141 t142 t143 t144 t145 t146 t147 t148 t149 t150 t151 t152 t153 t154 t155 t156 t157 t158 t159 t160 t161 t162 t163 t164 t165 t166 t167 t168 t169 t170 t171 t172 t173 t174 t175 t176 t177 t178 t179 t180 t181 t182 t183 t184 t185 t186 t187 t188 t189 t190 t191 t192 t193 t194 t195 t196 t197 t198 t199 t200 t201 t202 t203 t204 t205 t206 t207 t208 t209 t210 t211 t212 t213 t214 t215 t216 t217 t218 : Value} (hk : Hid (c.kind = 3)) :
    Code.wp Tryz.prog swCode (Exit.then K X) ⟨#[A0, .pointer (some ⟨A, 0, none⟩), .pointer (some ⟨A + 1, 0, none⟩), .int .i64 0, .bool b0, .bool b1, .bool b2, .bool b3, .bool nK, .pointer (some ⟨g, 0, none⟩), .bool false, t11, t12, t13, t14, t15, t16, t17, t18, t19, t20, t21, t22, t23, t24, t25, t26, t27, t28, t29, t30, t31, t32, t33, t34, t35, t36, t37, t38, t39, t40, t41, t42, t43, t44, t45, t46, t47, t48, t49, t50, t51, t52, t53, t54, t55, t56, t57, t58, t59, t60, t61, t62, t63, t64, t65, t66, t67, t68, t69, t70, t71, t72, t73, t74, t75, t76, t77, t78, t79, t80, t81, t82, t83, t84, t85, t86, t87, t88, t89, t90, t91, t92, t93, t94, t95, t96, t97, t98, t99, t100, .int .i64 c.kind, t102, t103, t104, t105, t106, t107, t108, t109, t110, t111, t112, t113, t114, t115, t116, t117, t118, t119, t120, t121, t122, t123, t124, t125, t126, t127, t128, t129, t130, t131, t132, t133, t134, t135, t136, t137, t138, t139, t140, t141, t142, t143, t144, t145, t146, t147, t148, t149, t150, t151, t152, t153, t154, t155, t156, t157, t158, t159, t160, t161, t162, t163, t164, t165, t166, t167, t168, t169, t170, t171, t172, t173, t174, t175, t176, t177, t178, t179, t180, t181, t182, t183, t184, t185, t186, t187, t188, t189, t190, t191, t192, t193, t194, t195, t196, t197, t198, t199, t200, t201, t202, t203, t204, t205, t206, t207, t208, t209, t210, t211, t212, t213, t214, t215, t216, t217, t218], []⟩ w9 := by
  unfold swCode
  dsimp only [Tryz.f20, codeR, codeL, Option.getD]
  have q1 : (c.kind == 1) = false := by have hk : c.kind = 3 := hk; simp [hk]
  have q2 : (c.kind == 2) = false := by have hk : c.kind = 3 := hk; simp [hk]
  have q3 : (c.kind == 3) = true := by have hk : c.kind = 3 := hk; simp [hk]
  have f17 := keep hb 17 _ rfl
  go_upto_region 22 with fail
  go_cut [10] from 134 to 149 (fun c10 wx => ∃ f : Bool, c10 = .bool f ∧ (f = true → nK = true ∧ b0 = true ∧ b1 = true ∧ b3 = true ∧ c.spots.length = 0) ∧ wx = w9)
  case first =>
    clear hw hb hK hpl keep hB0 hB1 hB2 hB3 hnK hroom p3 p4 p5 p6 p7 p8 p9 p10 p11 p12 p13
    by_cases hsl : c.spots.length = 0
    · have hslb : ((c.spots.length : Int) == 0) = true := by rw [hsl]; rfl
      have hslh : Hid (c.spots.length = 0) := hsl
      clear hsl
      cases nK
      · go_wp2_with fail; go_meet; case rel => exact ⟨_, rfl, fun e => (by exact absurd e Bool.false_ne_true), rfl⟩
      cases b0
      · go_wp2_with fail; go_meet; case rel => exact ⟨_, rfl, fun e => (by exact absurd e Bool.false_ne_true), rfl⟩
      cases b1
      · go_wp2_with fail; go_meet; case rel => exact ⟨_, rfl, fun e => (by exact absurd e Bool.false_ne_true), rfl⟩
      cases b3
      · go_wp2_with fail; go_meet; case rel => exact ⟨_, rfl, fun e => (by exact absurd e Bool.false_ne_true), rfl⟩
      · go_wp2_with fail; go_meet; case rel => exact ⟨_, rfl, fun _ => (by first | exact ⟨rfl, rfl, rfl, rfl, hslh⟩ | exact ⟨trivial, trivial, trivial, trivial, hslh⟩), rfl⟩
    · have hsl' : ¬ (c.spots.length : Int) = 0 := by omega
      have hslb : ((c.spots.length : Int) == 0) = false := by rw [beq_eq_false_iff_ne]; exact hsl'
      cases nK
      · go_wp2_with fail; go_meet; case rel => exact ⟨_, rfl, fun e => (by exact absurd e Bool.false_ne_true), rfl⟩
      cases b0
      · go_wp2_with fail; go_meet; case rel => exact ⟨_, rfl, fun e => (by exact absurd e Bool.false_ne_true), rfl⟩
      cases b1
      · go_wp2_with fail; go_meet; case rel => exact ⟨_, rfl, fun e => (by exact absurd e Bool.false_ne_true), rfl⟩
      cases b3
      · go_wp2_with fail; go_meet; case rel => exact ⟨_, rfl, fun e => (by exact absurd e Bool.false_ne_true), rfl⟩
      · go_wp2_with fail; go_meet; case rel => exact ⟨_, rfl, fun e => (by exact absurd e Bool.false_ne_true), rfl⟩
  case rest =>
  obtain ⟨f, rfl, hf, hwx⟩ := hcut
  replace hf : Hid _ := hf
  subst hwx
  clear f17
  have f18 := keep hb 18 _ rfl
  have f19 := keep hb 19 _ rfl
  have f20 := keep hb 20 _ rfl
  have f21 := keep hb 21 _ rfl
  have hct := region_calls (w0 := wb) hw (v := .agg #[.slice ago c.game.owner.length cgo, .slice agp c.game.prio.length cgp, .slice ags c.game.succ.length cgs]) ⟨_, _, _, rfl, p8, p9, p10⟩ p11 hb (by have := hroom.game; omega)
  go_wp2_with fail
  go_fit hct
  rintro e w10 ⟨rfl, o10, x10, n10, hw10, hk10, hl10, hs10⟩
  have hb10 := Below.kept hb hw hb.size hk10
  clear hct f18 f19 f20 f21
  go_wp2_with fail
  exact hK _ _ _ _ _ _ _ _ _ _ _ _ _ _ _ _ _ _ _ _ _ _ _ _ _ _ _ _ _ _ _ _ _ _ _ _ _ _ _ _ _ _ _ _ _ _ _ _ _ _ _ _ _ _ _ _ _ _ _ _ _ _ _ _ _ _ _ _ _ _ _ _ _ _ _ _ _ _ _ _ _ _ _ _ _ _ _ _ _ _ _ _ _ _ _ _ _ _ _ _ _ _ _ _ _ _ _ _ _ _ _ _ _ _ _ _ _ _ _ _ _ _ _ _ _ _ _ _ _ _ _ _ _ _ _ _ _ _ _ _ _ _ _ _ _ _ _ _ _ _ _ _ _ _ _ _ _ _ _ _ _ _ _ _ _ _ _ _ _ _ _ _ _ _ _ _ _ _ _ _ _ _ _ _ _ _ _ _ _ _ _ _ _ _ _ _ _ _ _ _ _ _ _ _ _ _ _ _ _ _ _ _ _ _ hw10 hb10 (end3 hk hs10 (fun e => by have hff := (show f = true → _ from hf) e; have hnk := (show nK = true → _ from hnK) hff.1; exact ⟨⟨hnk.1, (show c.form = _ from h0).trans hnk.2⟩, zeros_ctrl (of_decide_eq_true (hB0.trans hff.2.1)), zeros_env (of_decide_eq_true (hB1.trans hff.2.2.1)), zeros_word (of_decide_eq_true (hB3.trans hff.2.2.2.1)), hff.2.2.2.2⟩))
end Go.Proofs.YtcedalofcekdkaaGreatDoor
end

section
namespace Go.Proofs.YtcedalofcekdkaaGreatDoor
open Go.RowKit

set_option linter.unusedVariables false in
set_option maxHeartbeats 12800000 in
set_option maxRecDepth 1000000 in
theorem sw4 {wb w9 : World} {A g : Nat} {c : ClaimD} {op val bound : Int} {name : ByteArray} {args : List FT} {asg af amo amn aei aen asp ago agp ags ame ale are : Option Addr} {cs1 cf cmo cmn cei cen csp cgo cgp cgs cme cle cre : Nat}
    (hroom : Room c) (h0 : Hid (c.form = FT.node op name val bound args)) (keep : ∀ {w2 : World}, Below wb.heap.size wb w2 → ∀ i x, (#[Value.int .i64 c.kind, Value.slice asg c.sigs.length cs1, Value.int .i64 op, Value.string name, Value.int .i64 val, Value.int .i64 bound, Value.slice af args.length cf, Value.int .i64 c.ctrl.ins, Value.int .i64 c.ctrl.outs, Value.int .i64 c.ctrl.start, Value.slice amo c.ctrl.out.length cmo, Value.slice amn c.ctrl.next.length cmn, Value.int .i64 c.env.ins, Value.int .i64 c.env.outs, Value.int .i64 c.env.start, Value.slice aei c.env.inp.length cei, Value.slice aen c.env.next.length cen, Value.slice asp c.spots.length csp, Value.slice ago c.game.owner.length cgo, Value.slice agp c.game.prio.length cgp, Value.slice ags c.game.succ.length cgs, Value.slice ame c.measure.length cme, Value.slice ale c.letters.length cle, Value.slice are c.residuals.length cre])[i]? = some x → w2.cell? ⟨A, i, none⟩ = some x)
    (p3 : RowsV wb (Value.slice amo c.ctrl.out.length cmo) c.ctrl.out) (p4 : RowsV wb (Value.slice amn c.ctrl.next.length cmn) c.ctrl.next) (p5 : IntsV wb (Value.slice aei c.env.inp.length cei) c.env.inp) (p6 : RowsV wb (Value.slice aen c.env.next.length cen) c.env.next) (p7 : SpotsV wb (Value.slice asp c.spots.length csp) c.spots) (p8 : IntsV wb (Value.slice ago c.game.owner.length cgo) c.game.owner) (p9 : IntsV wb (Value.slice agp c.game.prio.length cgp) c.game.prio) (p10 : RowsV wb (Value.slice ags c.game.succ.length cgs) c.game.succ) (p11 : RowsV wb (Value.slice ame c.measure.length cme) c.measure) (p12 : IntsV wb (Value.slice ale c.letters.length cle) c.letters) (p13 : FormsV wb (Value.slice are c.residuals.length cre) c.residuals)
    (hpl : (encPre c).length ≤ 20000010) {b0 b1 b2 b3 nK : Bool} (hnK : Hid (nK = true → c.sigs.length = 0 ∧ FT.node op name val bound args = emptyF))
    (hB0 : Hid (decide (∀ x ∈ [c.ctrl.ins, c.ctrl.outs, c.ctrl.start, (c.ctrl.out.length : Int), (c.ctrl.next.length : Int)], x = 0) = b0)) (hB1 : Hid (decide (∀ x ∈ [c.env.ins, c.env.outs, c.env.start, (c.env.inp.length : Int), (c.env.next.length : Int)], x = 0) = b1)) (hB2 : Hid (decide (∀ x ∈ [(c.game.owner.length : Int), (c.game.prio.length : Int), (c.game.succ.length : Int), (c.measure.length : Int)], x = 0) = b2)) (hB3 : Hid (decide (∀ x ∈ [(c.letters.length : Int), (c.residuals.length : Int)], x = 0) = b3))
    {o : Option Nat} {y : Bool} (hw : Wr w9 wb.heap.size g o (encPre c) ((encPre c).any bad) y) (hb : Below wb.heap.size wb w9) {K : Act → World → Prop} {X} {A0 : Value} (hK : SwPost c wb A g A0 b0 b1 b2 b3 nK K) {t11 t12 t13 t14 t15 t16 t17 t18 t19 t20 t21 t22 t23 t24 t25 t26 t27 t28 t29 t30 t31 t32 t33 t34 t35 t36 t37 t38 t39 t40 t41 t42 t43 t44 t45 t46 t47 t48 t49 t50 t51 t52 t53 t54 t55 t56 t57 t58 t59 t60 t61 t62 t63 t64 t65 t66 t67 t68 t69 t70 t71 t72 t73 t74 t75 t76 t77 t78 t79 t80 t81 t82 t83 t84 t85 t86 t87 t88 t89 t90 t91 t92 t93 t94 t95 t96 t97 t98 t99 t100 t102 t103 t104 t105 t106 t107 t108 t109 t110 t111 t112 t113 t114 t115 t116 t117 t118 t119 t120 t121 t122 t123 t124 t125 t126 t127 t128 t129 t130 t131 t132 t133 t134 t135 t136 t137 t138 t139 t140 t141 t142 t143 t144 t145 t146 t147 t148 t149 t150 t151 t152 t153 t154 t155 t156 t157 t158 t159 t160 t161 t162 t163 t164 t165 t166 t167 t168 t169 t170 t171 t172 t173 t174 t175 t176 t177 t178 t179 t180 t181 t182 t183 t184 t185 t186 t187 t188 t189 t190 t191 t192 t193 t194 t195 t196 t197 t198 t199 t200 t201 t202 t203 t204 t205 t206 t207 t208 t209 t210 t211 t212 t213 t214 t215 t216 t217 t218 : Value} (hk : Hid (c.kind = 4)) :
    Code.wp Tryz.prog swCode (Exit.then K X) ⟨#[A0, .pointer (some ⟨A, 0, none⟩), .pointer (some ⟨A + 1, 0, none⟩), .int .i64 0, .bool b0, .bool b1, .bool b2, .bool b3, .bool nK, .pointer (some ⟨g, 0, none⟩), .bool false, t11, t12, t13, t14, t15, t16, t17, t18, t19, t20, t21, t22, t23, t24, t25, t26, t27, t28, t29, t30, t31, t32, t33, t34, t35, t36, t37, t38, t39, t40, t41, t42, t43, t44, t45, t46, t47, t48, t49, t50, t51, t52, t53, t54, t55, t56, t57, t58, t59, t60, t61, t62, t63, t64, t65, t66, t67, t68, t69, t70, t71, t72, t73, t74, t75, t76, t77, t78, t79, t80, t81, t82, t83, t84, t85, t86, t87, t88, t89, t90, t91, t92, t93, t94, t95, t96, t97, t98, t99, t100, .int .i64 c.kind, t102, t103, t104, t105, t106, t107, t108, t109, t110, t111, t112, t113, t114, t115, t116, t117, t118, t119, t120, t121, t122, t123, t124, t125, t126, t127, t128, t129, t130, t131, t132, t133, t134, t135, t136, t137, t138, t139, t140, t141, t142, t143, t144, t145, t146, t147, t148, t149, t150, t151, t152, t153, t154, t155, t156, t157, t158, t159, t160, t161, t162, t163, t164, t165, t166, t167, t168, t169, t170, t171, t172, t173, t174, t175, t176, t177, t178, t179, t180, t181, t182, t183, t184, t185, t186, t187, t188, t189, t190, t191, t192, t193, t194, t195, t196, t197, t198, t199, t200, t201, t202, t203, t204, t205, t206, t207, t208, t209, t210, t211, t212, t213, t214, t215, t216, t217, t218], []⟩ w9 := by
  unfold swCode
  dsimp only [Tryz.f20, codeR, codeL, Option.getD]
  have q1 : (c.kind == 1) = false := by have hk : c.kind = 4 := hk; simp [hk]
  have q2 : (c.kind == 2) = false := by have hk : c.kind = 4 := hk; simp [hk]
  have q3 : (c.kind == 3) = false := by have hk : c.kind = 4 := hk; simp [hk]
  have q4 : (c.kind == 4) = true := by have hk : c.kind = 4 := hk; simp [hk]
  have f17 := keep hb 17 _ rfl
  have f22 := keep hb 22 _ rfl
  have f23 := keep hb 23 _ rfl
  go_upto_region 25 with fail
  go_cut [10] from 157 to 178 (fun c10 wx => ∃ f : Bool, c10 = .bool f ∧ (f = true → b0 = true ∧ b1 = true ∧ b2 = true ∧ c.spots.length = 0) ∧ wx = w9)
  case first =>
    clear hw hb hK hpl keep hB0 hB1 hB2 hB3 hnK hroom p3 p4 p5 p6 p7 p8 p9 p10 p11 p12 p13
    cases b0
    · go_wp2_with fail; go_meet; case rel => exact ⟨_, rfl, fun e => (by exact absurd e Bool.false_ne_true), rfl⟩
    cases b1
    · go_wp2_with fail; go_meet; case rel => exact ⟨_, rfl, fun e => (by exact absurd e Bool.false_ne_true), rfl⟩
    cases b2
    · go_wp2_with fail; go_meet; case rel => exact ⟨_, rfl, fun e => (by exact absurd e Bool.false_ne_true), rfl⟩
    by_cases hsl : c.spots.length = 0
    · have hslb : ((c.spots.length : Int) == 0) = true := by rw [hsl]; rfl
      have hslh : Hid (c.spots.length = 0) := hsl
      clear hsl
      cases hlr : ((c.letters.length : Int) == (c.residuals.length : Int))
      · go_wp2_with fail; go_meet; case rel => exact ⟨_, rfl, fun e => (by exact absurd e Bool.false_ne_true), rfl⟩
      · go_wp2_with fail; go_meet; case rel => exact ⟨_, rfl, fun _ => (by first | exact ⟨rfl, rfl, rfl, hslh⟩ | exact ⟨trivial, trivial, trivial, hslh⟩), rfl⟩
    · have hsl' : ¬ (c.spots.length : Int) = 0 := by omega
      have hslb : ((c.spots.length : Int) == 0) = false := by rw [beq_eq_false_iff_ne]; exact hsl'
      go_wp2_with fail; go_meet; case rel => exact ⟨_, rfl, fun e => (by exact absurd e Bool.false_ne_true), rfl⟩
  case rest =>
  obtain ⟨f, rfl, hf, hwx⟩ := hcut
  replace hf : Hid _ := hf
  subst hwx
  clear f17
  obtain ⟨a', cap', e', hsrc⟩ := p12.src hw.low hb
  cases e'
  have hli := list_calls hw hsrc (by have := hroom.letters; omega) hb.size
  go_wp2_with fail
  go_fit hli
  rintro e w10 ⟨rfl, o10, hw10, hk10⟩
  have hb10 := Below.kept hb hw hb.size hk10
  clear hli hsrc f22 f23
  have f23 := keep hb10 23 _ rfl
  have hel := encF_len c.residuals
  have hpt := put_new hw10 [(c.residuals.length : Int)] 1 (by have := hroom.letters; simp [listEnc]; omega) hb10.size
  go_wp2_with fail
  go_fit hpt
  rintro e w11 ⟨rfl, o11, hw11, hk11⟩
  have hb11 := Below.kept hb10 hw10 hb10.size hk11
  clear hpt f23
  have f23 := keep hb11 23 _ rfl
  go_wp2_with fail
  clear f23
  generalize hN : encPre c ++ listEnc c.letters ++ [(c.residuals.length : Int)] = N at hw11
  generalize hX : (((encPre c).any bad || (listEnc c.letters).any bad) || [(c.residuals.length : Int)].any bad) = X0 at hw11
  have hNl : N.length ≤ 500000000 := by rw [← hN]; have := hroom.letters; simp [listEnc]; omega
  replace hN : Hid _ := hN
  replace hX : Hid _ := hX
  obtain ⟨are0, cre0, ere, har⟩ := p13
  cases ere
  clear hw hw10 hk10 hk11 hb hb10
  go_loopw [190] (fun i wr => ∃ k : Nat, k ≤ c.residuals.length ∧ i = .int .i64 k ∧ ∃ o y, Wr wr wb.heap.size g o (N ++ encF (c.residuals.take k)) (X0 || (encF (c.residuals.take k)).any bad) y ∧ Below wb.heap.size wb wr) (fun i _ => c.residuals.length - (RowKit.intOf i).toNat)
  case atStart => exact ⟨0, Nat.zero_le _, rfl, o11, _, by simpa [encF] using hw11, hb11⟩
  case round =>
    obtain ⟨k, hkk, rfl, o12, y12, hwr, hbr⟩ := hrel
    by_cases hkl : k < c.residuals.length
    · obtain ⟨b, o5, op', name', val', bound', args', u', rfl, hb, hj, hu, d0, d1, d2, d3, d4⟩ := FormsV.get har hkl
      have e0 := (hbr.cell (p := ⟨b, o5 + k * 5, none⟩) hb).trans d0
      have e1 := (hbr.cell (p := ⟨b, o5 + k * 5 + 1, none⟩) hb).trans d1
      have e2 := (hbr.cell (p := ⟨b, o5 + k * 5 + 2, none⟩) hb).trans d2
      have e3 := (hbr.cell (p := ⟨b, o5 + k * 5 + 3, none⟩) hb).trans d3
      have e4 := (hbr.cell (p := ⟨b, o5 + k * 5 + 4, none⟩) hb).trans d4
      obtain ⟨a', cap', rfl, hu'⟩ := hu
      have hel2 := encF_le c.residuals (k + 1)
      rw [encF_succ c.residuals k _ hj, List.length_append] at hel2
      have hre := hroom.residuals
      have hrec := fun O => whole_calls (w0 := wb) (hwr.alloc O) (f := .node op' name' val' bound' args') ⟨_, rfl, a', cap', rfl, hu'⟩ (hbr.alloc hbr.size O) (by simp only [List.length_append] at hel2 ⊢; omega)
      clear d0 d1 d2 d3 d4 har hw11 hb11
      go_wp2_with fail
      go_fit (hrec _)
      rintro e w12 ⟨rfl, o13, y13, hw13, hk13⟩
      have hb13 := Below.kept (hbr.alloc hbr.size _) (hwr.alloc _) (hbr.alloc hbr.size _).size hk13
      rw [Bool.or_assoc, ← List.any_append, List.append_assoc, ← encF_succ c.residuals k _ hj] at hw13
      clear hrec e0 e1 e2 e3 e4 hwr hbr hk13
      go_wp2
      go_roundw
      case rel => exact ⟨k + 1, by omega, by go_num, o13, y13, hw13, hb13⟩
      case measure => simp [RowKit.intOf]; omega
    · have hke : k = c.residuals.length := by omega
      subst hke
      rw [List.take_length] at hwr
      go_wp2
      exact hK _ _ _ _ _ _ _ _ _ _ _ _ _ _ _ _ _ _ _ _ _ _ _ _ _ _ _ _ _ _ _ _ _ _ _ _ _ _ _ _ _ _ _ _ _ _ _ _ _ _ _ _ _ _ _ _ _ _ _ _ _ _ _ _ _ _ _ _ _ _ _ _ _ _ _ _ _ _ _ _ _ _ _ _ _ _ _ _ _ _ _ _ _ _ _ _ _ _ _ _ _ _ _ _ _ _ _ _ _ _ _ _ _ _ _ _ _ _ _ _ _ _ _ _ _ _ _ _ _ _ _ _ _ _ _ _ _ _ _ _ _ _ _ _ _ _ _ _ _ _ _ _ _ _ _ _ _ _ _ _ _ _ _ _ _ _ _ _ _ _ _ _ _ _ _ _ _ _ _ _ _ _ _ _ _ _ _ _ _ _ _ _ _ _ _ _ _ _ _ _ _ _ _ _ _ _ _ _ _ _ _ _ _ _ hwr hbr (by rw [← (show _ = N from hN), ← (show _ = X0 from hX)]; exact end4 hk (fun e => by have hff := (show f = true → _ from hf) e; exact ⟨zeros_ctrl (of_decide_eq_true (hB0.trans hff.1)), zeros_env (of_decide_eq_true (hB1.trans hff.2.1)), zeros_game (of_decide_eq_true (hB2.trans hff.2.2.1)), hff.2.2.2⟩))
end Go.Proofs.YtcedalofcekdkaaGreatDoor
end

section
namespace Go.Proofs.YtcedalofcekdkaaGreatDoor
open Go.RowKit

set_option linter.unusedVariables false in
set_option maxHeartbeats 12800000 in
set_option maxRecDepth 1000000 in
theorem sw5 {wb w9 : World} {A g : Nat} {c : ClaimD} {op val bound : Int} {name : ByteArray} {args : List FT} {asg af amo amn aei aen asp ago agp ags ame ale are : Option Addr} {cs1 cf cmo cmn cei cen csp cgo cgp cgs cme cle cre : Nat}
    (hroom : Room c) (h0 : Hid (c.form = FT.node op name val bound args)) (keep : ∀ {w2 : World}, Below wb.heap.size wb w2 → ∀ i x, (#[Value.int .i64 c.kind, Value.slice asg c.sigs.length cs1, Value.int .i64 op, Value.string name, Value.int .i64 val, Value.int .i64 bound, Value.slice af args.length cf, Value.int .i64 c.ctrl.ins, Value.int .i64 c.ctrl.outs, Value.int .i64 c.ctrl.start, Value.slice amo c.ctrl.out.length cmo, Value.slice amn c.ctrl.next.length cmn, Value.int .i64 c.env.ins, Value.int .i64 c.env.outs, Value.int .i64 c.env.start, Value.slice aei c.env.inp.length cei, Value.slice aen c.env.next.length cen, Value.slice asp c.spots.length csp, Value.slice ago c.game.owner.length cgo, Value.slice agp c.game.prio.length cgp, Value.slice ags c.game.succ.length cgs, Value.slice ame c.measure.length cme, Value.slice ale c.letters.length cle, Value.slice are c.residuals.length cre])[i]? = some x → w2.cell? ⟨A, i, none⟩ = some x)
    (p3 : RowsV wb (Value.slice amo c.ctrl.out.length cmo) c.ctrl.out) (p4 : RowsV wb (Value.slice amn c.ctrl.next.length cmn) c.ctrl.next) (p5 : IntsV wb (Value.slice aei c.env.inp.length cei) c.env.inp) (p6 : RowsV wb (Value.slice aen c.env.next.length cen) c.env.next) (p7 : SpotsV wb (Value.slice asp c.spots.length csp) c.spots) (p8 : IntsV wb (Value.slice ago c.game.owner.length cgo) c.game.owner) (p9 : IntsV wb (Value.slice agp c.game.prio.length cgp) c.game.prio) (p10 : RowsV wb (Value.slice ags c.game.succ.length cgs) c.game.succ) (p11 : RowsV wb (Value.slice ame c.measure.length cme) c.measure) (p12 : IntsV wb (Value.slice ale c.letters.length cle) c.letters) (p13 : FormsV wb (Value.slice are c.residuals.length cre) c.residuals)
    (hpl : (encPre c).length ≤ 20000010) {b0 b1 b2 b3 nK : Bool} (hnK : Hid (nK = true → c.sigs.length = 0 ∧ FT.node op name val bound args = emptyF))
    (hB0 : Hid (decide (∀ x ∈ [c.ctrl.ins, c.ctrl.outs, c.ctrl.start, (c.ctrl.out.length : Int), (c.ctrl.next.length : Int)], x = 0) = b0)) (hB1 : Hid (decide (∀ x ∈ [c.env.ins, c.env.outs, c.env.start, (c.env.inp.length : Int), (c.env.next.length : Int)], x = 0) = b1)) (hB2 : Hid (decide (∀ x ∈ [(c.game.owner.length : Int), (c.game.prio.length : Int), (c.game.succ.length : Int), (c.measure.length : Int)], x = 0) = b2)) (hB3 : Hid (decide (∀ x ∈ [(c.letters.length : Int), (c.residuals.length : Int)], x = 0) = b3))
    {o : Option Nat} {y : Bool} (hw : Wr w9 wb.heap.size g o (encPre c) ((encPre c).any bad) y) (hb : Below wb.heap.size wb w9) {K : Act → World → Prop} {X} {A0 : Value} (hK : SwPost c wb A g A0 b0 b1 b2 b3 nK K) {t11 t12 t13 t14 t15 t16 t17 t18 t19 t20 t21 t22 t23 t24 t25 t26 t27 t28 t29 t30 t31 t32 t33 t34 t35 t36 t37 t38 t39 t40 t41 t42 t43 t44 t45 t46 t47 t48 t49 t50 t51 t52 t53 t54 t55 t56 t57 t58 t59 t60 t61 t62 t63 t64 t65 t66 t67 t68 t69 t70 t71 t72 t73 t74 t75 t76 t77 t78 t79 t80 t81 t82 t83 t84 t85 t86 t87 t88 t89 t90 t91 t92 t93 t94 t95 t96 t97 t98 t99 t100 t102 t103 t104 t105 t106 t107 t108 t109 t110 t111 t112 t113 t114 t115 t116 t117 t118 t119 t120 t121 t122 t123 t124 t125 t126 t127 t128 t129 t130 t131 t132 t133 t134 t135 t136 t137 t138 t139 t140 t141 t142 t143 t144 t145 t146 t147 t148 t149 t150 t151 t152 t153 t154 t155 t156 t157 t158 t159 t160 t161 t162 t163 t164 t165 t166 t167 t168 t169 t170 t171 t172 t173 t174 t175 t176 t177 t178 t179 t180 t181 t182 t183 t184 t185 t186 t187 t188 t189 t190 t191 t192 t193 t194 t195 t196 t197 t198 t199 t200 t201 t202 t203 t204 t205 t206 t207 t208 t209 t210 t211 t212 t213 t214 t215 t216 t217 t218 : Value} (hk1 : ¬ c.kind = 1) (hk2 : ¬ c.kind = 2) (hk3 : ¬ c.kind = 3) (hk4 : ¬ c.kind = 4) :
    Code.wp Tryz.prog swCode (Exit.then K X) ⟨#[A0, .pointer (some ⟨A, 0, none⟩), .pointer (some ⟨A + 1, 0, none⟩), .int .i64 0, .bool b0, .bool b1, .bool b2, .bool b3, .bool nK, .pointer (some ⟨g, 0, none⟩), .bool false, t11, t12, t13, t14, t15, t16, t17, t18, t19, t20, t21, t22, t23, t24, t25, t26, t27, t28, t29, t30, t31, t32, t33, t34, t35, t36, t37, t38, t39, t40, t41, t42, t43, t44, t45, t46, t47, t48, t49, t50, t51, t52, t53, t54, t55, t56, t57, t58, t59, t60, t61, t62, t63, t64, t65, t66, t67, t68, t69, t70, t71, t72, t73, t74, t75, t76, t77, t78, t79, t80, t81, t82, t83, t84, t85, t86, t87, t88, t89, t90, t91, t92, t93, t94, t95, t96, t97, t98, t99, t100, .int .i64 c.kind, t102, t103, t104, t105, t106, t107, t108, t109, t110, t111, t112, t113, t114, t115, t116, t117, t118, t119, t120, t121, t122, t123, t124, t125, t126, t127, t128, t129, t130, t131, t132, t133, t134, t135, t136, t137, t138, t139, t140, t141, t142, t143, t144, t145, t146, t147, t148, t149, t150, t151, t152, t153, t154, t155, t156, t157, t158, t159, t160, t161, t162, t163, t164, t165, t166, t167, t168, t169, t170, t171, t172, t173, t174, t175, t176, t177, t178, t179, t180, t181, t182, t183, t184, t185, t186, t187, t188, t189, t190, t191, t192, t193, t194, t195, t196, t197, t198, t199, t200, t201, t202, t203, t204, t205, t206, t207, t208, t209, t210, t211, t212, t213, t214, t215, t216, t217, t218], []⟩ w9 := by
  unfold swCode
  dsimp only [Tryz.f20, codeR, codeL, Option.getD]
  have q1 : (c.kind == 1) = false := by simp [hk1]
  have q2 : (c.kind == 2) = false := by simp [hk2]
  have q3 : (c.kind == 3) = false := by simp [hk3]
  have q4 : (c.kind == 4) = false := by simp [hk4]
  go_wp2_with fail
  exact hK _ _ _ _ _ _ _ _ _ _ _ _ _ _ _ _ _ _ _ _ _ _ _ _ _ _ _ _ _ _ _ _ _ _ _ _ _ _ _ _ _ _ _ _ _ _ _ _ _ _ _ _ _ _ _ _ _ _ _ _ _ _ _ _ _ _ _ _ _ _ _ _ _ _ _ _ _ _ _ _ _ _ _ _ _ _ _ _ _ _ _ _ _ _ _ _ _ _ _ _ _ _ _ _ _ _ _ _ _ _ _ _ _ _ _ _ _ _ _ _ _ _ _ _ _ _ _ _ _ _ _ _ _ _ _ _ _ _ _ _ _ _ _ _ _ _ _ _ _ _ _ _ _ _ _ _ _ _ _ _ _ _ _ _ _ _ _ _ _ _ _ _ _ _ _ _ _ _ _ _ _ _ _ _ _ _ _ _ _ _ _ _ _ _ _ _ _ _ _ _ _ _ _ _ _ _ _ _ _ _ _ _ _ _ hw hb (end5)
end Go.Proofs.YtcedalofcekdkaaGreatDoor
end

section
namespace Go.Proofs.YtcedalofcekdkaaGreatDoor
open Go.RowKit

set_option linter.unusedVariables false in
set_option maxHeartbeats 12800000 in
set_option maxRecDepth 1000000 in
theorem sw_all {wb w9 : World} {A g : Nat} {c : ClaimD} {op val bound : Int} {name : ByteArray} {args : List FT} {asg af amo amn aei aen asp ago agp ags ame ale are : Option Addr} {cs1 cf cmo cmn cei cen csp cgo cgp cgs cme cle cre : Nat}
    (hroom : Room c) (h0 : Hid (c.form = FT.node op name val bound args)) (keep : ∀ {w2 : World}, Below wb.heap.size wb w2 → ∀ i x, (#[Value.int .i64 c.kind, Value.slice asg c.sigs.length cs1, Value.int .i64 op, Value.string name, Value.int .i64 val, Value.int .i64 bound, Value.slice af args.length cf, Value.int .i64 c.ctrl.ins, Value.int .i64 c.ctrl.outs, Value.int .i64 c.ctrl.start, Value.slice amo c.ctrl.out.length cmo, Value.slice amn c.ctrl.next.length cmn, Value.int .i64 c.env.ins, Value.int .i64 c.env.outs, Value.int .i64 c.env.start, Value.slice aei c.env.inp.length cei, Value.slice aen c.env.next.length cen, Value.slice asp c.spots.length csp, Value.slice ago c.game.owner.length cgo, Value.slice agp c.game.prio.length cgp, Value.slice ags c.game.succ.length cgs, Value.slice ame c.measure.length cme, Value.slice ale c.letters.length cle, Value.slice are c.residuals.length cre])[i]? = some x → w2.cell? ⟨A, i, none⟩ = some x)
    (p3 : RowsV wb (Value.slice amo c.ctrl.out.length cmo) c.ctrl.out) (p4 : RowsV wb (Value.slice amn c.ctrl.next.length cmn) c.ctrl.next) (p5 : IntsV wb (Value.slice aei c.env.inp.length cei) c.env.inp) (p6 : RowsV wb (Value.slice aen c.env.next.length cen) c.env.next) (p7 : SpotsV wb (Value.slice asp c.spots.length csp) c.spots) (p8 : IntsV wb (Value.slice ago c.game.owner.length cgo) c.game.owner) (p9 : IntsV wb (Value.slice agp c.game.prio.length cgp) c.game.prio) (p10 : RowsV wb (Value.slice ags c.game.succ.length cgs) c.game.succ) (p11 : RowsV wb (Value.slice ame c.measure.length cme) c.measure) (p12 : IntsV wb (Value.slice ale c.letters.length cle) c.letters) (p13 : FormsV wb (Value.slice are c.residuals.length cre) c.residuals)
    (hpl : (encPre c).length ≤ 20000010) {b0 b1 b2 b3 nK : Bool} (hnK : Hid (nK = true → c.sigs.length = 0 ∧ FT.node op name val bound args = emptyF))
    (hB0 : Hid (decide (∀ x ∈ [c.ctrl.ins, c.ctrl.outs, c.ctrl.start, (c.ctrl.out.length : Int), (c.ctrl.next.length : Int)], x = 0) = b0)) (hB1 : Hid (decide (∀ x ∈ [c.env.ins, c.env.outs, c.env.start, (c.env.inp.length : Int), (c.env.next.length : Int)], x = 0) = b1)) (hB2 : Hid (decide (∀ x ∈ [(c.game.owner.length : Int), (c.game.prio.length : Int), (c.game.succ.length : Int), (c.measure.length : Int)], x = 0) = b2)) (hB3 : Hid (decide (∀ x ∈ [(c.letters.length : Int), (c.residuals.length : Int)], x = 0) = b3))
    {o : Option Nat} {y : Bool} (hw : Wr w9 wb.heap.size g o (encPre c) ((encPre c).any bad) y) (hb : Below wb.heap.size wb w9) {K : Act → World → Prop} {X} {A0 : Value} (hK : SwPost c wb A g A0 b0 b1 b2 b3 nK K) {t11 t12 t13 t14 t15 t16 t17 t18 t19 t20 t21 t22 t23 t24 t25 t26 t27 t28 t29 t30 t31 t32 t33 t34 t35 t36 t37 t38 t39 t40 t41 t42 t43 t44 t45 t46 t47 t48 t49 t50 t51 t52 t53 t54 t55 t56 t57 t58 t59 t60 t61 t62 t63 t64 t65 t66 t67 t68 t69 t70 t71 t72 t73 t74 t75 t76 t77 t78 t79 t80 t81 t82 t83 t84 t85 t86 t87 t88 t89 t90 t91 t92 t93 t94 t95 t96 t97 t98 t99 t100 t102 t103 t104 t105 t106 t107 t108 t109 t110 t111 t112 t113 t114 t115 t116 t117 t118 t119 t120 t121 t122 t123 t124 t125 t126 t127 t128 t129 t130 t131 t132 t133 t134 t135 t136 t137 t138 t139 t140 t141 t142 t143 t144 t145 t146 t147 t148 t149 t150 t151 t152 t153 t154 t155 t156 t157 t158 t159 t160 t161 t162 t163 t164 t165 t166 t167 t168 t169 t170 t171 t172 t173 t174 t175 t176 t177 t178 t179 t180 t181 t182 t183 t184 t185 t186 t187 t188 t189 t190 t191 t192 t193 t194 t195 t196 t197 t198 t199 t200 t201 t202 t203 t204 t205 t206 t207 t208 t209 t210 t211 t212 t213 t214 t215 t216 t217 t218 : Value} :
    Code.wp Tryz.prog swCode (Exit.then K X) ⟨#[A0, .pointer (some ⟨A, 0, none⟩), .pointer (some ⟨A + 1, 0, none⟩), .int .i64 0, .bool b0, .bool b1, .bool b2, .bool b3, .bool nK, .pointer (some ⟨g, 0, none⟩), .bool false, t11, t12, t13, t14, t15, t16, t17, t18, t19, t20, t21, t22, t23, t24, t25, t26, t27, t28, t29, t30, t31, t32, t33, t34, t35, t36, t37, t38, t39, t40, t41, t42, t43, t44, t45, t46, t47, t48, t49, t50, t51, t52, t53, t54, t55, t56, t57, t58, t59, t60, t61, t62, t63, t64, t65, t66, t67, t68, t69, t70, t71, t72, t73, t74, t75, t76, t77, t78, t79, t80, t81, t82, t83, t84, t85, t86, t87, t88, t89, t90, t91, t92, t93, t94, t95, t96, t97, t98, t99, t100, .int .i64 c.kind, t102, t103, t104, t105, t106, t107, t108, t109, t110, t111, t112, t113, t114, t115, t116, t117, t118, t119, t120, t121, t122, t123, t124, t125, t126, t127, t128, t129, t130, t131, t132, t133, t134, t135, t136, t137, t138, t139, t140, t141, t142, t143, t144, t145, t146, t147, t148, t149, t150, t151, t152, t153, t154, t155, t156, t157, t158, t159, t160, t161, t162, t163, t164, t165, t166, t167, t168, t169, t170, t171, t172, t173, t174, t175, t176, t177, t178, t179, t180, t181, t182, t183, t184, t185, t186, t187, t188, t189, t190, t191, t192, t193, t194, t195, t196, t197, t198, t199, t200, t201, t202, t203, t204, t205, t206, t207, t208, t209, t210, t211, t212, t213, t214, t215, t216, t217, t218], []⟩ w9 := by
  by_cases hk1 : c.kind = 1
  · exact sw1 hroom h0 keep p3 p4 p5 p6 p7 p8 p9 p10 p11 p12 p13 hpl hnK hB0 hB1 hB2 hB3 hw hb hK hk1
  by_cases hk2 : c.kind = 2
  · exact sw2 hroom h0 keep p3 p4 p5 p6 p7 p8 p9 p10 p11 p12 p13 hpl hnK hB0 hB1 hB2 hB3 hw hb hK hk2
  by_cases hk3 : c.kind = 3
  · exact sw3 hroom h0 keep p3 p4 p5 p6 p7 p8 p9 p10 p11 p12 p13 hpl hnK hB0 hB1 hB2 hB3 hw hb hK hk3
  by_cases hk4 : c.kind = 4
  · exact sw4 hroom h0 keep p3 p4 p5 p6 p7 p8 p9 p10 p11 p12 p13 hpl hnK hB0 hB1 hB2 hB3 hw hb hK hk4
  exact sw5 hroom h0 keep p3 p4 p5 p6 p7 p8 p9 p10 p11 p12 p13 hpl hnK hB0 hB1 hB2 hB3 hw hb hK hk1 hk2 hk3 hk4
end Go.Proofs.YtcedalofcekdkaaGreatDoor
end
