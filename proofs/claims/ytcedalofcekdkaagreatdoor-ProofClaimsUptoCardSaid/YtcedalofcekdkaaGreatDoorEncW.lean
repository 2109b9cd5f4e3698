/- Encode, whole. -/
import Derived.Test.YtcedalofcekdkaaGreatDoorPlainA
import Derived.Deep.CutBlock
import Derived.Test.YtcedalofcekdkaaGreatDoorSwA
import Derived.Laws.ResultCell
import Derived.Test.YtcedalofcekdkaaGreatDoorClaimV
import Derived.Test.YtcedalofcekdkaaGreatDoorEmpA
import Derived.Deep.DeepCutAuto
import Derived.Test.YtcedalofcekdkaaGreatDoorEqB
set_option linter.unusedSimpArgs false
set_option linter.unusedVariables false
namespace Go.Proofs.YtcedalofcekdkaaGreatDoor
open Go.RowKit

def EncPost (w : World) (c : ClaimD) (e : Ending) (w' : World) : Prop :=
  ∃ (an : Option Addr) (n cap : Nat) (sl er : Int), e = .returned (.tuple #[.agg #[.slice an n cap, .int .i64 sl], .int .i64 er]) ∧ Below w.heap.size w w' ∧ (er = 0 ∨ er = 1 ∨ er = 2) ∧ (er = 0 → Fits c ∧ IntsV w' (.slice an n cap) (claimEnc c) ∧ (claimEnc c).any bad = false ∧ (claimEnc c).length ≤ 20000)

theorem nums_new (w : World) (l : List Int) : Nums (w.alloc (.cells (intsI l).toArray 3)) (some ⟨w.heap.size, 0, none⟩) l :=
  .inr ⟨_, _, rfl, fun j x hj => by rw [World.cell?_alloc_new, Nat.zero_add]; simp [intsI, hj]⟩

set_option maxHeartbeats 6400000 in
set_option maxRecDepth 1000000 in
theorem encode_calls {w : World} {v : Value} {c : ClaimD} (h : ClaimV w v c) (hroom : Room c) : Calls Tryz.prog 20 #[v] w fun e w' => EncPost w c e w' := by
  obtain ⟨cs, rfl, s, op, name, val, bound, args, fa, mo, mn, ei, en, sp, go, gp, gs, me, le, re, h0, rfl, h1, h2, h3, h4, h5, h6, h7, h8, h9, h10, h11, h12, h13⟩ := h
  obtain ⟨asg, cs1, rfl, -⟩ := id h1
  obtain ⟨af, cf, rfl, -⟩ := id h2
  obtain ⟨amo, cmo, rfl, -⟩ := id h3
  obtain ⟨amn, cmn, rfl, -⟩ := id h4
  obtain ⟨aei, cei, rfl, -, -⟩ := id h5
  obtain ⟨aen, cen, rfl, -⟩ := id h6
  obtain ⟨asp, csp, rfl, hsp⟩ := id h7
  obtain ⟨ago, cgo, rfl, -, -⟩ := id h8
  obtain ⟨agp, cgp, rfl, -, -⟩ := id h9
  obtain ⟨ags, cgs, rfl, -⟩ := id h10
  obtain ⟨ame, cme, rfl, -⟩ := id h11
  obtain ⟨ale, cle, rfl, -, -⟩ := id h12
  obtain ⟨are, cre, rfl, -⟩ := id h13
  unfold ClaimCells
  go_enter Tryz.func20, Tryz.ntmps20
  go_wp2_with fail
  generalize hwb : (w.alloc (Obj.cells #[Value.int .i64 c.kind, Value.slice asg c.sigs.length cs1, Value.int .i64 op, Value.string name, Value.int .i64 val, Value.int .i64 bound, Value.slice af args.length cf, Value.int .i64 c.ctrl.ins, Value.int .i64 c.ctrl.outs, Value.int .i64 c.ctrl.start, Value.slice amo c.ctrl.out.length cmo, Value.slice amn c.ctrl.next.length cmn, Value.int .i64 c.env.ins, Value.int .i64 c.env.outs, Value.int .i64 c.env.start, Value.slice aei c.env.inp.length cei, Value.slice aen c.env.next.length cen, Value.slice asp c.spots.length csp, Value.slice ago c.game.owner.length cgo, Value.slice agp c.game.prio.length cgp, Value.slice ags c.game.succ.length cgs, Value.slice ame c.measure.length cme, Value.slice ale c.letters.length cle, Value.slice are c.residuals.length cre] 55)).alloc (Obj.cells #[Value.slice none 0 0, Value.int .i64 0] 30) = wb
  have hBb : Below w.heap.size w wb := by rw [← hwb]; exact ((Below.refl _ w).alloc (Nat.le_refl _) _).alloc (by simp) _
  have hbs : wb.heap.size = w.heap.size + 2 := by rw [← hwb]; simp
  have keep : ∀ {w2 : World}, Below wb.heap.size wb w2 → ∀ i x, (#[Value.int .i64 c.kind, Value.slice asg c.sigs.length cs1, Value.int .i64 op, Value.string name, Value.int .i64 val, Value.int .i64 bound, Value.slice af args.length cf, Value.int .i64 c.ctrl.ins, Value.int .i64 c.ctrl.outs, Value.int .i64 c.ctrl.start, Value.slice amo c.ctrl.out.length cmo, Value.slice amn c.ctrl.next.length cmn, Value.int .i64 c.env.ins, Value.int .i64 c.env.outs, Value.int .i64 c.env.start, Value.slice aei c.env.inp.length cei, Value.slice aen c.env.next.length cen, Value.slice asp c.spots.length csp, Value.slice ago c.game.owner.length cgo, Value.slice agp c.game.prio.length cgp, Value.slice ags c.game.succ.length cgs, Value.slice ame c.measure.length cme, Value.slice ale c.letters.length cle, Value.slice are c.residuals.length cre])[i]? = some x → w2.cell? ⟨w.heap.size, i, none⟩ = some x := fun hk i x hx => by
    rw [hk.cell (p := ⟨w.heap.size, i, none⟩) (by show w.heap.size < _; omega), ← hwb]
    refine (((Below.refl (w.heap.size + 1) (w.alloc _)).alloc (by simp) _).cell (p := ⟨w.heap.size, i, none⟩) (by show w.heap.size < _; omega)).trans ?_
    rw [World.cell?_alloc_new]; exact hx
  have keepR : ∀ {w2 : World}, Below wb.heap.size wb w2 → w2.cell? ⟨w.heap.size + 1, 0, none⟩ = some (.slice none 0 0) ∧ w2.cell? ⟨w.heap.size + 1, 1, none⟩ = some (.int .i64 0) ∧ w2.frozen? ⟨w.heap.size + 1, 0, none⟩ = false ∧ w2.frozen? ⟨w.heap.size + 1, 1, none⟩ = false := fun hk => by
    rw [hk.cell (p := ⟨w.heap.size + 1, 0, none⟩) (by show w.heap.size + 1 < _; omega), hk.cell (p := ⟨w.heap.size + 1, 1, none⟩) (by show w.heap.size + 1 < _; omega), hk.frozen (p := ⟨w.heap.size + 1, 0, none⟩) (by show w.heap.size + 1 < _; omega), hk.frozen (p := ⟨w.heap.size + 1, 1, none⟩) (by show w.heap.size + 1 < _; omega), ← hwb]
    exact res_new w _
  have hs1 : w.heap.size + 1 + 1 = wb.heap.size := by omega
  rw [hs1]
  clear hwb hs1
  have p1 := sigsBelow h1 hBb
  have p2 := h2.below hBb
  have p3 := rowsBelow h3 hBb
  have p4 := rowsBelow h4 hBb
  have p5 := h5.below hBb
  have p6 := rowsBelow h6 hBb
  have p7 := spotsBelow h7 hBb
  have p8 := h8.below hBb
  have p9 := h9.below hBb
  have p10 := rowsBelow h10 hBb
  have p11 := rowsBelow h11 hBb
  have p12 := h12.below hBb
  have p13 := h13.below hBb
  have pf : FormV wb (.agg #[.int .i64 op, .string name, .int .i64 val, .int .i64 bound, .slice af args.length cf]) c.form := by rw [h0]; exact ⟨_, rfl, p2⟩
  have hpl := pre_len hroom
  clear h1 h2 h3 h4 h5 h6 h7 h8 h9 h10 h11 h12 h13 hsp
  have hb0 : Below wb.heap.size wb wb := Below.refl _ _
  have hE0 := empty_calls (wb.alloc (Obj.cells #[Value.int .i64 c.ctrl.ins, Value.int .i64 c.ctrl.outs, Value.int .i64 c.ctrl.start, Value.int .i64 (c.ctrl.out.length : Int), Value.int .i64 (c.ctrl.next.length : Int)] 3)) (some ⟨wb.heap.size, 0, none⟩) 5 [c.ctrl.ins, c.ctrl.outs, c.ctrl.start, (c.ctrl.out.length : Int), (c.ctrl.next.length : Int)] (nums_new wb [c.ctrl.ins, c.ctrl.outs, c.ctrl.start, (c.ctrl.out.length : Int), (c.ctrl.next.length : Int)]) (by simp)
  generalize hB0 : decide (∀ x ∈ [c.ctrl.ins, c.ctrl.outs, c.ctrl.start, (c.ctrl.out.length : Int), (c.ctrl.next.length : Int)], x = 0) = b0 at hE0
  have hb1 : Below wb.heap.size wb (wb.alloc (Obj.cells #[Value.int .i64 c.ctrl.ins, Value.int .i64 c.ctrl.outs, Value.int .i64 c.ctrl.start, Value.int .i64 (c.ctrl.out.length : Int), Value.int .i64 (c.ctrl.next.length : Int)] 3)) := hb0.alloc hb0.size _
  go_fit hE0
  rintro e w1 ⟨rfl, hw⟩
  rw [← hw] at hb1
  clear hw hE0
  have f12 := keep hb1 12 _ rfl
  have f13 := keep hb1 13 _ rfl
  have f14 := keep hb1 14 _ rfl
  have f15 := keep hb1 15 _ rfl
  have f16 := keep hb1 16 _ rfl
  go_wp2_with fail
  clear f12 f13 f14 f15 f16
  have hE1 := empty_calls (w1.alloc (Obj.cells #[Value.int .i64 c.env.ins, Value.int .i64 c.env.outs, Value.int .i64 c.env.start, Value.int .i64 (c.env.inp.length : Int), Value.int .i64 (c.env.next.length : Int)] 3)) (some ⟨w1.heap.size, 0, none⟩) 5 [c.env.ins, c.env.outs, c.env.start, (c.env.inp.length : Int), (c.env.next.length : Int)] (nums_new w1 [c.env.ins, c.env.outs, c.env.start, (c.env.inp.length : Int), (c.env.next.length : Int)]) (by simp)
  generalize hB1 : decide (∀ x ∈ [c.env.ins, c.env.outs, c.env.start, (c.env.inp.length : Int), (c.env.next.length : Int)], x = 0) = b1 at hE1
  have hb2 : Below wb.heap.size wb (w1.alloc (Obj.cells #[Value.int .i64 c.env.ins, Value.int .i64 c.env.outs, Value.int .i64 c.env.start, Value.int .i64 (c.env.inp.length : Int), Value.int .i64 (c.env.next.length : Int)] 3)) := hb1.alloc hb1.size _
  go_fit hE1
  rintro e w2 ⟨rfl, hw⟩
  rw [← hw] at hb2
  clear hw hE1
  have f18 := keep hb2 18 _ rfl
  have f19 := keep hb2 19 _ rfl
  have f20 := keep hb2 20 _ rfl
  have f21 := keep hb2 21 _ rfl
  go_wp2_with fail
  clear f18 f19 f20 f21
  have hE2 := empty_calls (w2.alloc (Obj.cells #[Value.int .i64 (c.game.owner.length : Int), Value.int .i64 (c.game.prio.length : Int), Value.int .i64 (c.game.succ.length : Int), Value.int .i64 (c.measure.length : Int)] 3)) (some ⟨w2.heap.size, 0, none⟩) 4 [(c.game.owner.length : Int), (c.game.prio.length : Int), (c.game.succ.length : Int), (c.measure.length : Int)] (nums_new w2 [(c.game.owner.length : Int), (c.game.prio.length : Int), (c.game.succ.length : Int), (c.measure.length : Int)]) (by simp)
  generalize hB2 : decide (∀ x ∈ [(c.game.owner.length : Int), (c.game.prio.length : Int), (c.game.succ.length : Int), (c.measure.length : Int)], x = 0) = b2 at hE2
  have hb3 : Below wb.heap.size wb (w2.alloc (Obj.cells #[Value.int .i64 (c.game.owner.length : Int), Value.int .i64 (c.game.prio.length : Int), Value.int .i64 (c.game.succ.length : Int), Value.int .i64 (c.measure.length : Int)] 3)) := hb2.alloc hb2.size _
  go_fit hE2
  rintro e w3 ⟨rfl, hw⟩
  rw [← hw] at hb3
  clear hw hE2
  have f22 := keep hb3 22 _ rfl
  have f23 := keep hb3 23 _ rfl
  go_wp2_with fail
  clear f22 f23
  have hE3 := empty_calls (w3.alloc (Obj.cells #[Value.int .i64 (c.letters.length : Int), Value.int .i64 (c.residuals.length : Int)] 3)) (some ⟨w3.heap.size, 0, none⟩) 2 [(c.letters.length : Int), (c.residuals.length : Int)] (nums_new w3 [(c.letters.length : Int), (c.residuals.length : Int)]) (by simp)
  generalize hB3 : decide (∀ x ∈ [(c.letters.length : Int), (c.residuals.length : Int)], x = 0) = b3 at hE3
  have hb4 : Below wb.heap.size wb (w3.alloc (Obj.cells #[Value.int .i64 (c.letters.length : Int), Value.int .i64 (c.residuals.length : Int)] 3)) := hb3.alloc hb3.size _
  go_fit hE3
  rintro e w4 ⟨rfl, hw⟩
  rw [← hw] at hb4
  clear hw hE3
  have f1 := keep hb4 1 _ rfl
  have f2 := keep hb4 2 _ rfl
  have f3 := keep hb4 3 _ rfl
  have f4 := keep hb4 4 _ rfl
  have f5 := keep hb4 5 _ rfl
  have f6 := keep hb4 6 _ rfl
  have hW4 : Below w.heap.size w w4 := hBb.trans (hb4.mono (by omega))
  have hcmp : Calls Tryz.prog 64 #[.agg #[.int .i64 op, .string name, .int .i64 val, .int .i64 bound, .slice af args.length cf], .agg #[.int .i64 0, .string { data := #[] }, .int .i64 0, .int .i64 0, .slice none 0 0]] w4 fun e w' => (∃ d : Int, e = .returned (.int .i64 d) ∧ (d = 0 ↔ FT.node op name val bound args = emptyF)) ∧ Below w4.heap.size w4 w' := compare_calls w4 op name val bound af cf args
  go_upto_region 5 with fail
  go_cut [8] (fun c8 wx => ∃ nK : Bool, c8 = .bool nK ∧ (nK = true → c.sigs.length = 0 ∧ FT.node op name val bound args = emptyF) ∧ Below wb.heap.size wb wx)
  case first =>
    by_cases hsg : c.sigs.length = 0
    · have hsgb : ((c.sigs.length : Int) == 0) = true := by rw [hsg]; rfl
      have hsgh : Hid (c.sigs.length = 0) := hsg
      clear hsg
      go_wp2_with fail
      go_fit hcmp
      rintro e w5 ⟨⟨d, rfl, hd⟩, hw5⟩
      have hb5 : Below wb.heap.size wb w5 := hb4.trans (hw5.mono hb4.size)
      cases hdd : (d == 0)
      · go_wp2_with fail
        go_meet
        case rel => exact ⟨false, rfl, fun e => (by cases e), hb5⟩
      · have hd1 := hd.1 (by simpa using hdd)
        go_wp2_with fail
        go_meet
        case rel => exact ⟨true, rfl, fun _ => ⟨hsgh, hd1⟩, hb5⟩
    · have hsg' : ¬ (c.sigs.length : Int) = 0 := by omega
      go_wp2_with fail
      go_meet
      case rel => exact ⟨false, rfl, fun e => (by cases e), hb4⟩
  case rest =>
    obtain ⟨nK, rfl, hnK, hbx⟩ := hcut
    replace hnK : Hid _ := hnK
    replace hB0 : Hid _ := hB0
    replace hB1 : Hid _ := hB1
    replace hB2 : Hid _ := hB2
    replace hB3 : Hid _ := hB3
    clear hcmp hW4 hb4 hb3 hb2 hb1 hb0 f1 f2 f3 f4 f5 f6
    have f0 := fun O => keep (hbx.alloc hbx.size O) 0 _ rfl
    have hxs := hbx.size
    have hr := wr_new wc wb.heap.size hxs
    have hput := put_new hr [c.kind] 1 (by simp) (by simp; omega)
    rw [World.size_alloc] at hput
    go_wp2_with fail
    go_fit hput
    rintro e w6 ⟨rfl, o6, hw6, hk6⟩
    have hb6 := Below.kept (hbx.alloc hxs _) hr (by rw [World.size_alloc]; omega) hk6
    clear hput hr f0 hk6 hbx hxs
    generalize wc.heap.size = g at hw6 ⊢
    have f0 := keep hb6 0 _ rfl
    go_upto_if 93 with fail
    go_cut [] (fun wx => ∃ o y, Wr wx wb.heap.size g o (encPre c) ((encPre c).any bad) y ∧ Below wb.heap.size wb wx)
    case first =>
      by_cases hk3 : c.kind = 3
      · have hk3b : (c.kind != 3) = false := by simp [hk3]
        have hk3h : Hid (c.kind = 3) := hk3
        clear hk3
        go_wp2_with fail
        go_meet
        case rel => exact ⟨o6, false, by have hk3 : c.kind = 3 := hk3h; simpa [encPre, hk3] using hw6, hb6⟩
      · have hk3b : (c.kind != 3) = true := by simp [hk3]
        have f1 := keep hb6 1 _ rfl
        have hsig := signals_calls (w0 := wb) (B := 0) hw6 p1 hb6 (by have := hroom.sigs; simp only [List.length_append, List.length_cons, List.length_nil]; omega)
        go_wp2_with fail
        go_fit hsig
        rintro e w7 ⟨rfl, o7, hw7, hk7⟩
        have hb7 := Below.kept hb6 hw6 hb6.size hk7
        clear hsig f1
        have f2 := keep hb7 2 _ rfl
        have f3 := keep hb7 3 _ rfl
        have f4 := keep hb7 4 _ rfl
        have f5 := keep hb7 5 _ rfl
        have f6 := keep hb7 6 _ rfl
        have hwh := whole_calls (w0 := wb) hw7 pf hb7 (by have := hroom.sigs; have := hroom.form; simp only [List.length_append, List.length_cons, List.length_nil, sigsEnc]; omega)
        go_wp2_with fail
        go_fit hwh
        rintro e w8 ⟨rfl, o8, y8, hw8, hk8⟩
        have hb8 := Below.kept hb7 hw7 hb7.size hk8
        clear hwh f2 f3 f4 f5 f6
        have he : encPre c = [] ++ [c.kind] ++ sigsEnc c.sigs ++ encF [c.form] := by simp [encPre, hk3]
        have he2 : (encPre c).any bad = (((false || [c.kind].any bad) || (sigsEnc c.sigs).any bad) || (encF [c.form]).any bad) := by rw [he]; simp [List.any_append, Bool.or_assoc]
        rw [← he, ← he2] at hw8
        go_wp2_with fail
        go_meet
        case rel => exact ⟨o8, y8, hw8, hb8⟩
    case rest =>
      obtain ⟨o, y, hw, hb⟩ := hcut
      clear hw6 hb6 f0
      obtain ⟨w9, rfl⟩ : ∃ w9, w9 = wc := ⟨_, rfl⟩
      have f0 := keep hb 0 _ rfl
      go_upto_block 0 with fail
      refine sw_all hroom h0 keep p3 p4 p5 p6 p7 p8 p9 p10 p11 p12 p13 hpl hnK hB0 hB1 hB2 hB3 hw hb ?_
      clear hw hb f0 hpl hnK hB0 hB1 hB2 hB3 p3 p4 p5 p6 p7 p8 p9 p10 p11 p12 p13
      intro f wx o nums x y s11 s12 s13 s14 s15 s16 s17 s18 s19 s20 s21 s22 s23 s24 s25 s26 s27 s28 s29 s30 s31 s32 s33 s34 s35 s36 s37 s38 s39 s40 s41 s42 s43 s44 s45 s46 s47 s48 s49 s50 s51 s52 s53 s54 s55 s56 s57 s58 s59 s60 s61 s62 s63 s64 s65 s66 s67 s68 s69 s70 s71 s72 s73 s74 s75 s76 s77 s78 s79 s80 s81 s82 s83 s84 s85 s86 s87 s88 s89 s90 s91 s92 s93 s94 s95 s96 s97 s98 s99 s100 s101 s102 s103 s104 s105 s106 s107 s108 s109 s110 s111 s112 s113 s114 s115 s116 s117 s118 s119 s120 s121 s122 s123 s124 s125 s126 s127 s128 s129 s130 s131 s132 s133 s134 s135 s136 s137 s138 s139 s140 s141 s142 s143 s144 s145 s146 s147 s148 s149 s150 s151 s152 s153 s154 s155 s156 s157 s158 s159 s160 s161 s162 s163 s164 s165 s166 s167 s168 s169 s170 s171 s172 s173 s174 s175 s176 s177 s178 s179 s180 s181 s182 s183 s184 s185 s186 s187 s188 s189 s190 s191 s192 s193 s194 s195 s196 s197 s198 s199 s200 s201 s202 s203 s204 s205 s206 s207 s208 s209 s210 s211 s212 s213 s214 s215 s216 s217 s218 hw hb hend
      dsimp only
      obtain ⟨r0, r1, r2, r3⟩ := keepR hb
      have d1 := hw.c1
      have d2 := hw.c2
      have hBx := hBb.trans (hb.mono (by omega))
      have hend : Hid _ := hend
      cases f
      · go_wp2_with fail
        obtain ⟨g0, g1⟩ := two_set r0 r1 (.slice none 0 0) (.int .i64 0)
        refine bodyPost_ret (v := .tuple #[.agg #[.slice none 0 0, .int .i64 0], .int .i64 1]) ?_ rfl ⟨_, _, _, _, _, rfl, ?_, .inr (.inl rfl), fun e => (by cases e)⟩
        · rw [results_cell_tmp rfl]
          go_simp
        · exact (hBx.setCell (by simp) _).setCell (by simp) _
      · cases x
        rotate_left
        · go_wp2_with fail
          obtain ⟨g0, g1⟩ := two_set r0 r1 (.slice none 0 0) (.int .i64 0)
          refine bodyPost_ret (v := .tuple #[.agg #[.slice none 0 0, .int .i64 0], .int .i64 1]) ?_ rfl ⟨_, _, _, _, _, rfl, ?_, .inr (.inl rfl), fun e => (by cases e)⟩
          · rw [results_cell_tmp rfl]
            go_simp
          · exact (hBx.setCell (by simp) _).setCell (by simp) _
        · obtain ⟨hfit, hnum, hbad⟩ := (show EncEnd c true false nums from hend) rfl rfl
          have hne : nums ≠ [] := by rw [hnum]; simp [claimEnc]
          have hnumh : Hid (nums = claimEnc c) := hnum
          clear hnum
          obtain ⟨k, cap, d0, hkB, hkl, hcells⟩ := wr_row hw hne
          cases y
          rotate_left
          · go_wp2_with fail
            obtain ⟨g0, g1⟩ := two_set r0 r1 (.slice none 0 0) (.int .i64 0)
            refine bodyPost_ret (v := .tuple #[.agg #[.slice none 0 0, .int .i64 0], .int .i64 2]) ?_ rfl ⟨_, _, _, _, _, rfl, ?_, .inr (.inr rfl), fun e => (by cases e)⟩
            · rw [results_cell_tmp rfl]
              go_simp
            · exact (hBx.setCell (by simp) _).setCell (by simp) _
          · by_cases hlong : (20000 : Int) < (nums.length : Int)
            · have hlb : decide ((20000 : Int) < (nums.length : Int)) = true := decide_eq_true hlong
              go_wp2_with fail
              obtain ⟨g0, g1⟩ := two_set r0 r1 (.slice none 0 0) (.int .i64 0)
              refine bodyPost_ret (v := .tuple #[.agg #[.slice none 0 0, .int .i64 0], .int .i64 2]) ?_ rfl ⟨_, _, _, _, _, rfl, ?_, .inr (.inr rfl), fun e => (by cases e)⟩
              · rw [results_cell_tmp rfl]
                go_simp
              · exact (hBx.setCell (by simp) _).setCell (by simp) _
            · have hlb : decide ((20000 : Int) < (nums.length : Int)) = false := decide_eq_false hlong
              have hcd : ∀ (j : Nat) (n : Int), nums[j]? = some n → wx.drew.cell? ⟨k, j, none⟩ = some (.int .i64 n) := fun j n hj => ((Below.refl wx.heap.size wx).drew.cell (p := ⟨k, j, none⟩) hkl).trans (hcells j n hj)
              obtain ⟨sl, hseal⟩ := wr_seal (cap := cap) hbad (by omega) hcd
              go_wp2_with fail
              refine wp_region_still_tail 5 (by kernel_rfl) (by kernel_rfl) ?_
              simp only [List.take_succ_cons, List.take_zero, List.drop_succ_cons, List.drop_zero]
              repeat (first | still_step | still_call hseal)
              refine wpStill_nil ?_
              change wpList _ _ _ _ _ wx.drew
              have r0 := (Below.refl wx.heap.size wx).drew.cell (p := ⟨w.heap.size + 1, 0, none⟩) (by have := hb.size; show w.heap.size + 1 < _; omega) |>.trans r0
              have r1 := (Below.refl wx.heap.size wx).drew.cell (p := ⟨w.heap.size + 1, 1, none⟩) (by have := hb.size; show w.heap.size + 1 < _; omega) |>.trans r1
              have r2 := (Below.refl wx.heap.size wx).drew.frozen (p := ⟨w.heap.size + 1, 0, none⟩) (by have := hb.size; show w.heap.size + 1 < _; omega) |>.trans r2
              have r3 := (Below.refl wx.heap.size wx).drew.frozen (p := ⟨w.heap.size + 1, 1, none⟩) (by have := hb.size; show w.heap.size + 1 < _; omega) |>.trans r3
              have hBd := hBx.drew
              have hkd : k < wx.drew.heap.size := hkl
              clear hcells hkl hBx d0 d1 d2 hw hb hseal
              generalize wx.drew = wd at *
              go_wp2_with fail
              obtain ⟨g0, g1⟩ := two_set r0 r1 (.slice (some ⟨k, 0, none⟩) nums.length cap) (.int .i64 sl)
              refine bodyPost_ret (v := .tuple #[.agg #[.slice (some ⟨k, 0, none⟩) nums.length cap, .int .i64 sl], .int .i64 0]) ?_ rfl ⟨_, _, _, _, _, rfl, ?_, .inl rfl, fun _ => ⟨hfit, ?_, ?_, ?_⟩⟩
              · rw [results_cell_tmp rfl]
                go_simp
              · exact (hBd.setCell (by simp) _).setCell (by simp) _
              · have hnum : nums = claimEnc c := hnumh
                rw [← hnum]
                refine ⟨_, cap, rfl, (fun e => by cases e), .inr ⟨k, 0, rfl, by simpa using hkd, fun j n hj => ?_⟩⟩
                rw [Nat.zero_add, World.cell?_setCell_other _ _ _ _ (by simp), World.cell?_setCell_other _ _ _ _ (by simp)]
                exact hcd j n hj
              · have hnum : nums = claimEnc c := hnumh
                rw [← hnum]; exact hbad
              · have hnum : nums = claimEnc c := hnumh
                rw [← hnum]; omega
end Go.Proofs.YtcedalofcekdkaaGreatDoor
