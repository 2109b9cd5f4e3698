/- The writer: put, name, list. -/
import Derived.Test.YtcedalofcekdkaaGreatDoorMemA
import Derived.Test.YtcedalofcekdkaaGreatDoorSealA
import Derived.Outline
import Derived.Maps.AppendAt
import Derived.Laws.AppendOwnNone
import Derived.Deep.Heap
import Derived.Deep.DeepFit
import Derived.Deep.RegionHeld
set_option linter.unusedSimpArgs false
set_option linter.unusedVariables false
section
namespace Go.Proofs.YtcedalofcekdkaaGreatDoor
open Go.RowKit

abbrev intsI (l : List Int) : List Value := l.map fun x => .int .i64 x

def bad (x : Int) : Bool := decide (x < 0) || decide (65519 < x)

structure Wr (w : World) (B g : Nat) (o : Option Nat) (nums : List Int) (wrong large : Bool) : Prop where
  low : B ≤ g
  lt : g < w.heap.size
  row : ∃ v, w.cell? ⟨g, 0, none⟩ = some v ∧ w.ownsRow B 3 1 v nums.length (intsI nums) ∧ v.ownBlock = o
  ne : o ≠ some g
  c1 : w.cell? ⟨g, 1, none⟩ = some (.bool wrong)
  c2 : w.cell? ⟨g, 2, none⟩ = some (.bool large)
  fz : ∀ j, w.frozen? ⟨g, j, none⟩ = false

structure Kept (g : Nat) (w : World) (o : Option Nat) (w' : World) (o' : Option Nat) : Prop where
  os : w'.os = w.os
  tape : w'.tape = w.tape
  output : w'.output = w.output
  size : w.heap.size ≤ w'.heap.size
  block : ∀ r, r < w.heap.size → r ≠ g → o ≠ some r → w'.heap[r]? = w.heap[r]?
  own : o' = o ∨ ∃ k, o' = some k ∧ w.heap.size ≤ k

theorem Kept.refl (g : Nat) (w : World) (o : Option Nat) : Kept g w o w o := ⟨rfl, rfl, rfl, Nat.le_refl _, fun _ _ _ _ => rfl, .inl rfl⟩

theorem Kept.trans {g : Nat} {w w' w'' : World} {o o' o'' : Option Nat} (h : Kept g w o w' o') (h' : Kept g w' o' w'' o'') : Kept g w o w'' o'' := by
  refine ⟨h'.os.trans h.os, h'.tape.trans h.tape, h'.output.trans h.output, Nat.le_trans h.size h'.size, fun r hr hg ho => ?_, ?_⟩
  · refine (h'.block r (Nat.lt_of_lt_of_le hr h.size) hg ?_).trans (h.block r hr hg ho)
    rcases h.own with e | ⟨k, e, hk⟩
    · rw [e]; exact ho
    · rw [e]; intro h2; cases h2; omega
  · rcases h'.own with e | ⟨k, e, hk⟩
    · rw [e]; exact h.own
    · exact .inr ⟨k, e, Nat.le_trans h.size hk⟩

theorem Kept.cell {g : Nat} {w w' : World} {o o' : Option Nat} (h : Kept g w o w' o') {r i : Nat} (hr : r < w.heap.size) (hg : r ≠ g) (ho : o ≠ some r) : w'.cell? ⟨r, i, none⟩ = w.cell? ⟨r, i, none⟩ :=
  World.cell?_of_block (w := w) (h.block r hr hg ho)

theorem Kept.below {g B : Nat} {w w' : World} {o o' : Option Nat} (h : Kept g w o w' o') (hg : B ≤ g) (hB : B ≤ w.heap.size) (ho : ∀ k, o = some k → B ≤ k) : Below B w w' :=
  ⟨h.os, h.tape, h.output, h.size, fun r hr => h.block r (by omega) (by omega) (fun e => by have := ho r e; omega)⟩

theorem Wr.own_lt {w : World} {B g : Nat} {o : Option Nat} {nums : List Int} {x y : Bool} (h : Wr w B g o nums x y) : ∀ k, o = some k → B ≤ k ∧ k < w.heap.size := by
  obtain ⟨v, _, hv, hb⟩ := h.row
  intro k hk
  exact hv.lt k (hb.trans hk)

theorem Wr.fresh {w : World} {B g : Nat} {o : Option Nat} {nums : List Int} {x y : Bool} (h : Wr w B g o nums x y) : o ≠ some w.heap.size := fun e => by have := (h.own_lt _ e).2; omega

theorem Wr.alloc {w : World} {B g : Nat} {o : Option Nat} {nums : List Int} {x y : Bool} (h : Wr w B g o nums x y) (O : Obj) : Wr (w.alloc O) B g o nums x y := by
  obtain ⟨v, h1, h2, h3⟩ := h.row
  refine ⟨h.low, by have := h.lt; simp; omega, ⟨v, ?_, h2.alloc O, h3⟩, h.ne, ?_, ?_, fun j => ?_⟩
  · rw [World.cell?_alloc_old _ _ _ (Nat.ne_of_lt h.lt)]; exact h1
  · rw [World.cell?_alloc_old _ _ _ (Nat.ne_of_lt h.lt)]; exact h.c1
  · rw [World.cell?_alloc_old _ _ _ (Nat.ne_of_lt h.lt)]; exact h.c2
  · rw [World.frozen?_alloc_old _ _ _ (Nat.ne_of_lt h.lt)]; exact h.fz j

theorem Kept.alloc (g : Nat) (w : World) (o : Option Nat) (O : Obj) : Kept g w o (w.alloc O) o :=
  ⟨rfl, rfl, rfl, by simp, fun r hr _ _ => by
    show (w.heap.push O)[r]? = _
    rw [Array.getElem?_push, if_neg (by omega)], .inl rfl⟩

theorem Kept.setCell (g : Nat) (w : World) (o : Option Nat) (j : Nat) (v : Value) : Kept g w o (w.setCell ⟨g, j, none⟩ v) o :=
  ⟨rfl, rfl, rfl, by rw [World.size_setCell]; exact Nat.le_refl _, fun r _ hr _ => Go.RowKit.Below.heap_setCell w ⟨g, j, none⟩ v r hr, .inl rfl⟩

theorem Wr.setWrong {w : World} {B g : Nat} {o : Option Nat} {nums : List Int} {x y : Bool} (h : Wr w B g o nums x y) (z : Bool) : Wr (w.setCell ⟨g, 1, none⟩ (.bool z)) B g o nums z y := by
  obtain ⟨v, h1, h2, h3⟩ := h.row
  refine ⟨h.low, by rw [World.size_setCell]; exact h.lt, ⟨v, ?_, ?_, h3⟩, h.ne, World.cell?_setCell_same _ _ _ h.c1, ?_, fun j => by rw [World.frozen?_setCell]; exact h.fz j⟩
  · rw [World.cell?_setCell_other _ _ _ _ (by simp)]; exact h1
  · exact h2.kept ⟨rfl, rfl, rfl, by rw [World.size_setCell]; exact Nat.le_refl _, fun k _ hk => Go.RowKit.Below.heap_setCell w ⟨g, 1, none⟩ _ k (fun e => hk (by rw [e]))⟩ (.inr (by rw [h3]; exact h.ne))
  · rw [World.cell?_setCell_other _ _ _ _ (by simp)]; exact h.c2

theorem Wr.setLarge {w : World} {B g : Nat} {o : Option Nat} {nums : List Int} {x y : Bool} (h : Wr w B g o nums x y) (z : Bool) : Wr (w.setCell ⟨g, 2, none⟩ (.bool z)) B g o nums x z := by
  obtain ⟨v, h1, h2, h3⟩ := h.row
  refine ⟨h.low, by rw [World.size_setCell]; exact h.lt, ⟨v, ?_, ?_, h3⟩, h.ne, ?_, World.cell?_setCell_same _ _ _ h.c2, fun j => by rw [World.frozen?_setCell]; exact h.fz j⟩
  · rw [World.cell?_setCell_other _ _ _ _ (by simp)]; exact h1
  · exact h2.kept ⟨rfl, rfl, rfl, by rw [World.size_setCell]; exact Nat.le_refl _, fun k _ hk => Go.RowKit.Below.heap_setCell w ⟨g, 2, none⟩ _ k (fun e => hk (by rw [e]))⟩ (.inr (by rw [h3]; exact h.ne))
  · rw [World.cell?_setCell_other _ _ _ _ (by simp)]; exact h.c1

theorem Wr.appended {w w' : World} {B g : Nat} {o : Option Nat} {nums l : List Int} {x y : Bool} (h : Wr w B g o nums x y) {v v' : Value} (hv : v.ownBlock = o) {n : Nat} (hn : n = nums.length + l.length) (ho : w'.ownsRow B 3 1 v' n (intsI (nums ++ l))) (hg : w.grownBy w' v.ownBlock)
    (hat : v'.ownBlock = v.ownBlock ∨ v'.ownBlock = some w.heap.size) : Wr (w'.setCell ⟨g, 0, none⟩ v') B g v'.ownBlock (nums ++ l) x y ∧ Kept g w o (w'.setCell ⟨g, 0, none⟩ v') v'.ownBlock := by
  have hgo : some g ≠ v.ownBlock := by rw [hv]; exact fun e => h.ne e.symm
  have hgo' : v'.ownBlock ≠ some g := by
    rcases hat with e | e
    · rw [e]; exact fun e2 => hgo e2.symm
    · rw [e]; intro e2; cases e2; exact absurd h.lt (Nat.lt_irrefl _)
  have hblk : w'.heap[g]? = w.heap[g]? := hg.block g h.lt hgo
  have hsz := hg.size
  refine ⟨⟨h.low, by rw [World.size_setCell]; exact Nat.lt_of_lt_of_le h.lt hsz, ⟨v', ?_, ?_, rfl⟩, hgo', ?_, ?_, fun j => ?_⟩, ?_⟩
  · obtain ⟨u, h1, _⟩ := h.row
    exact World.cell?_setCell_same _ _ _ (u := u) ((World.cell?_of_block (w := w) (a := ⟨g, 0, none⟩) hblk).trans h1)
  · rw [List.length_append, ← hn]
    exact ho.kept ⟨rfl, rfl, rfl, by rw [World.size_setCell]; exact Nat.le_refl _, fun k _ hk => Go.RowKit.Below.heap_setCell w' ⟨g, 0, none⟩ _ k (fun e => hk (by rw [e]))⟩ (.inr hgo')
  · rw [World.cell?_setCell_other _ _ _ _ (by simp), World.cell?_of_block (w := w) (a := ⟨g, 1, none⟩) hblk]; exact h.c1
  · rw [World.cell?_setCell_other _ _ _ _ (by simp), World.cell?_of_block (w := w) (a := ⟨g, 2, none⟩) hblk]; exact h.c2
  · rw [World.frozen?_setCell, World.frozen?_of_block (w := w) (a := ⟨g, j, none⟩) hblk]; exact h.fz j
  · refine ⟨hg.os, hg.tape, hg.output, by rw [World.size_setCell]; exact hsz, fun r hr hrg hro => ?_, ?_⟩
    · rw [Go.RowKit.Below.heap_setCell w' ⟨g, 0, none⟩ v' r hrg]
      exact hg.block r hr (by rw [hv]; exact fun e => hro e.symm)
    · rcases hat with e | e
      · exact .inl (e.trans hv)
      · exact .inr ⟨_, e, Nat.le_refl _⟩

theorem Kept.cellD {g : Nat} {w w' : World} {o o' : Option Nat} (h : Kept g w o w' o') {p : Addr} (hr : p.block < w.heap.size) (hg : p.block ≠ g) (ho : o ≠ some p.block) : w'.cell? p = w.cell? p :=
  World.cell?_of_block (w := w) (h.block p.block hr hg ho)

def PutSrc (g : Nat) (w : World) (a : Option Addr) (cap : Nat) (l : List Int) : Prop :=
  (a = none ∧ cap = 0 ∧ l = []) ∨ ∃ ad, a = some ad ∧ (l = [] ∨ ∃ b o, ad = ⟨b, o, none⟩ ∧ b < w.heap.size ∧ b ≠ g ∧ ∀ (j : Nat) (x : Int), l[j]? = some x → w.cell? ⟨b, o + j, none⟩ = some (.int .i64 x))

theorem bad_step (x : Bool) (l : List Int) (k : Nat) (n : Int) (h : l[k]? = some n) : (x || (l.take (k + 1)).any bad) = ((x || (l.take k).any bad) || (decide (n < 0)) || decide (65519 < n)) := by
  rw [List.take_add_one, h]
  simp only [Option.toList_some, List.any_append, List.any_cons, List.any_nil, Bool.or_false, bad, Bool.or_assoc]

theorem Kept.of_none {g : Nat} {w w' : World} (h : Kept g w none w' none) (o : Option Nat) : Kept g w o w' o :=
  ⟨h.os, h.tape, h.output, h.size, fun r hr hg _ => h.block r hr hg (by simp), .inl rfl⟩

set_option maxHeartbeats 1600000 in
set_option maxRecDepth 1000000 in
theorem put_calls {w : World} {B g : Nat} {o : Option Nat} {nums l : List Int} {x y : Bool} (h : Wr w B g o nums x y) {a : Option Addr} {cap : Nat} (hs : PutSrc g w a cap l) (hlen : nums.length + l.length ≤ 1000000000000) (hB : B ≤ w.heap.size) :
    Calls Tryz.prog 65 #[.pointer (some ⟨g, 0, none⟩), .slice a l.length cap] w fun e w' => e = .returned (.tuple #[]) ∧ ∃ o', Wr w' B g o' (nums ++ l) (x || l.any bad) y ∧ Kept g w o w' o' := by
  obtain ⟨i0, hi, hz0, hz1, hz2⟩ := info_parts info3
  go_enter Tryz.func65, Tryz.ntmps65
  go_wp2
  go_loopw [8] (fun i wr => ∃ k : Nat, k ≤ l.length ∧ i = .int .i64 k ∧ Wr wr B g o nums (x || (l.take k).any bad) y ∧ Kept g w none wr none) (fun i _ => l.length - (RowKit.intOf i).toNat)
  case atStart => exact ⟨0, Nat.zero_le _, rfl, by simpa using h, Kept.refl _ _ _⟩
  case round =>
    obtain ⟨k, hk, rfl, hwr, hkp⟩ := hrel
    by_cases hkl : k < l.length
    · obtain ⟨n, hn⟩ : ∃ n, l[k]? = some n := ⟨l[k], by simp [hkl]⟩
      obtain ⟨b, o2, rfl, hb, hbg, hc⟩ : ∃ b o, a = some ⟨b, o, none⟩ ∧ b < w.heap.size ∧ b ≠ g ∧ ∀ (j : Nat) (x : Int), l[j]? = some x → w.cell? ⟨b, o + j, none⟩ = some (.int .i64 x) := by
        rcases hs with ⟨_, _, e⟩ | ⟨ad, e, h | ⟨b, o, rfl, h⟩⟩
        · subst e; simp at hkl
        · subst h; simp at hkl
        · exact ⟨b, o, e, h⟩
      have hcell : wr.cell? ⟨b, o2 + k, none⟩ = some (.int .i64 n) := (hkp.cell hb hbg (by simp)).trans (hc k n hn)
      have hc1 := hwr.c1
      have hf1 := hwr.fz 1
      have hset := hwr.setWrong ((x || (l.take k).any bad) || decide (n < 0) || decide (65519 < n))
      have hks := hkp.trans (Kept.setCell g wr none 1 (.bool ((x || (l.take k).any bad) || decide (n < 0) || decide (65519 < n))))
      have hbs := bad_step x l k n hn
      clear hc hs hwr hkp h
      generalize (x || (l.take k).any bad) = z at *
      by_cases hz : z = true
      · subst hz
        simp only [Bool.true_or] at hset hks hbs
        go_wp2
        go_roundw
        case rel => exact ⟨k + 1, by omega, by go_num, by rw [hbs]; exact hset, hks⟩
        case measure => simp [RowKit.intOf]; omega
      · have hz : z = false := by simpa using hz
        subst hz
        by_cases h0 : n < 0
        · have e1 : decide (n < 0) = true := by simpa using h0
          rw [e1] at hset hks hbs
          simp only [Bool.true_or, Bool.false_or] at hset hks hbs
          go_wp2
          go_roundw
          case rel => exact ⟨k + 1, by omega, by go_num, by rw [hbs]; exact hset, hks⟩
          case measure => simp [RowKit.intOf]; omega
        · have e1 : decide (n < 0) = false := by simpa using h0
          rw [e1] at hset hks hbs
          simp only [Bool.true_or, Bool.false_or] at hset hks hbs
          go_wp2
          go_roundw
          case rel => exact ⟨k + 1, by omega, by go_num, by rw [hbs]; exact hset, hks⟩
          case measure => simp [RowKit.intOf]; omega
    · have hke : k = l.length := by omega
      rw [hke, List.take_length] at hwr
      obtain ⟨v, hv0, hrow, hob⟩ := hwr.row
      have hf0 := hwr.fz 0
      rcases hs with ⟨rfl, rfl, rfl⟩ | ⟨ad, rfl, hs⟩
      · have hfin := hwr.appended (l := []) (w' := wr) (v := v) (v' := v) hob (n := nums.length) (by simp) (by simpa using hrow) (World.grownBy.refl _ _) (.inl rfl)
        have hfin2 := (hkp.of_none o).trans hfin.2
        have hrow2 := hrow.2
        clear hwr hkp hrow h
        rcases hrow2 with ⟨rfl, h0⟩ | ⟨g', cap', cur, rfl, -, -, hnc, -⟩
        · go_wp2
          go_end0
          exact ⟨rfl, _, hfin.1, hfin2⟩
        · go_wp2
          go_end0
          exact ⟨rfl, _, hfin.1, hfin2⟩
      · go_wp2_with (first | (at_builtin; refine wpList_append_own_at _ rfl _ _ 25 rfl B 3 i0 (.int .i64 0) 1 8 Tryz.underlying25 hi hz0 hz1 hz2 rfl (by decide) v nums.length (intsI nums) rfl hrow ad l.length cap (intsI l) rfl ?c0 ?c1 ?c2 ?c3 ?c4 ?c5 ?_))
        case c0 => simp [intsI]
        case c1 =>
          intro j u hj
          simp only [intsI, List.getElem?_map] at hj
          cases hn : l[j]? with
          | none => rw [hn] at hj; cases hj
          | some n =>
            rw [hn] at hj
            have e : u = .int .i64 n := by simpa using hj.symm
            subst e
            rcases hs with e | ⟨b, o2, rfl, hb, hbg, hc⟩
            · subst e; simp at hn
            · have := (hkp.cell hb hbg (by simp)).trans (hc j n hn)
              rw [Addr.add_lit]; exact this
        case c2 => intro u hu; simp only [intsI, List.mem_map] at hu; obtain ⟨_, _, rfl⟩ := hu; rfl
        case c3 => unfold maxLen; omega
        case c4 => omega
        case c5 => exact Nat.le_trans hB hkp.size
        intro v' w' hown hgr hnil hat
        have hgr : wr.grownBy w' v.ownBlock := by rw [hob]; exact hgr
        have hat : v'.ownBlock = v.ownBlock ∨ v'.ownBlock = some wr.heap.size := by rw [hob]; exact hat
        have hfin := hwr.appended hob rfl (by simpa only [intsI, List.map_append] using hown) hgr hat
        have hfin2 := (hkp.of_none o).trans hfin.2
        have hfg : w'.frozen? ⟨g, 0, none⟩ = false := (World.frozen?_of_block (w := wr) (a := ⟨g, 0, none⟩) (hgr.block g hwr.lt (by rw [hob]; exact fun e => hwr.ne e.symm))).trans hf0
        have hcg : w'.cell? ⟨g, 0, none⟩ = some v := (World.cell?_of_block (w := wr) (a := ⟨g, 0, none⟩) (hgr.block g hwr.lt (by rw [hob]; exact fun e => hwr.ne e.symm))).trans hv0
        obtain ⟨a', n', c', rfl⟩ : ∃ a n c, v' = .slice a n c := by
          rcases hown.2 with ⟨e, _⟩ | ⟨g', cap', cur, e, _⟩
          · exact ⟨_, _, _, e⟩
          · exact ⟨_, _, _, e⟩
        clear hown hgr hnil hat hwr hrow hkp hs
        go_wp2
        go_end0
        exact ⟨rfl, _, hfin.1, hfin2⟩
end Go.Proofs.YtcedalofcekdkaaGreatDoor
end

section
namespace Go.Proofs.YtcedalofcekdkaaGreatDoor
open Go.RowKit

theorem putSrc_new {g : Nat} {w : World} (l : List Int) (cap : Nat) (hg : g < w.heap.size) : PutSrc g (w.alloc (.cells (intsI l).toArray 3)) (some ⟨w.heap.size, 0, none⟩) cap l := by
  refine .inr ⟨_, rfl, .inr ⟨w.heap.size, 0, rfl, by simp, by omega, fun j x hj => ?_⟩⟩
  rw [Nat.zero_add, World.cell?_alloc_new]
  simp [hj]

theorem put_new {w : World} {B g : Nat} {o : Option Nat} {nums : List Int} {x y : Bool} (h : Wr w B g o nums x y) (l : List Int) (cap : Nat) (hlen : nums.length + l.length ≤ 1000000000000) (hB : B ≤ w.heap.size) :
    Calls Tryz.prog 65 #[.pointer (some ⟨g, 0, none⟩), .slice (some ⟨w.heap.size, 0, none⟩) l.length cap] (w.alloc (.cells (intsI l).toArray 3)) fun e w' => e = .returned (.tuple #[]) ∧ ∃ o', Wr w' B g o' (nums ++ l) (x || l.any bad) y ∧ Kept g w o w' o' := by
  refine (put_calls (h.alloc _) (putSrc_new l cap h.lt) hlen (by simp; omega)).mono ?_
  rintro e w' ⟨rfl, o', h1, h2⟩
  exact ⟨rfl, o', h1, (Kept.alloc g w o _).trans h2⟩

def nameEnc (s : ByteArray) : List Int := (s.size : Int) :: s.data.toList.map fun b => (b.toNat : Int)

theorem nameEnc_length (s : ByteArray) : (nameEnc s).length = s.size + 1 := by
  unfold nameEnc
  rw [List.length_cons, List.length_map]
  rfl

theorem nameEnc_take (s : ByteArray) (k : Nat) (h : k < s.size) : (nameEnc s).take (k + 1 + 1) = (nameEnc s).take (k + 1) ++ [((s[k]'h).toNat : Int)] := by
  rw [List.take_add_one]
  congr 1
  unfold nameEnc
  rw [List.getElem?_cons_succ, List.getElem?_map]
  have : s.data.toList[k]? = some (s[k]'h) := by
    obtain ⟨d⟩ := s
    have h' : k < d.size := h
    show d.toList[k]? = some d[k]
    simp [h']
  rw [this]; rfl

set_option maxHeartbeats 1600000 in
set_option maxRecDepth 1000000 in
theorem name_calls {w : World} {B g : Nat} {o : Option Nat} {nums : List Int} {x y : Bool} (h : Wr w B g o nums x y) (s : ByteArray) (hlen : nums.length + s.size ≤ 100000000000) (hB : B ≤ w.heap.size) :
    Calls Tryz.prog 138 #[.pointer (some ⟨g, 0, none⟩), .string s] w fun e w' => e = .returned (.tuple #[]) ∧ ∃ o', Wr w' B g o' (nums ++ nameEnc s) (x || (nameEnc s).any bad) y ∧ Kept g w o w' o' := by
  go_enter Tryz.func138, Tryz.ntmps138
  go_wp2_with fail
  go_fit (put_new h [(s.size : Int)] 1 (by simp; omega) hB)
  rintro e w1 ⟨rfl, o1, hw1, hk1⟩
  go_wp2_with fail
  go_loopw [12] (fun i wr => ∃ k : Nat, k ≤ s.size ∧ i = .int .i64 k ∧ ∃ o', Wr wr B g o' (nums ++ (nameEnc s).take (k + 1)) (x || ((nameEnc s).take (k + 1)).any bad) y ∧ Kept g w o wr o') (fun i _ => s.size - (RowKit.intOf i).toNat)
  case atStart => exact ⟨0, Nat.zero_le _, rfl, o1, by simpa [nameEnc] using hw1, hk1⟩
  case round =>
    obtain ⟨k, hk, rfl, o2, hwr, hkp⟩ := hrel
    by_cases hkl : k < s.size
    · have hv : wrap64 ((s[k]'hkl).toNat : Int) = ((s[k]'hkl).toNat : Int) := by
        have := (s[k]'hkl).toNat_lt
        unfold wrap64; omega
      have hl1 : ((nameEnc s).take (k + 1)).length ≤ s.size + 1 := by rw [List.length_take, nameEnc_length]; omega
      have hput := put_new hwr [((s[k]'hkl).toNat : Int)] 1 (by simp only [List.length_append, List.length_singleton]; omega) (Nat.le_trans hB hkp.size)
      rw [List.append_assoc, ← nameEnc_take s k hkl] at hput
      rw [Bool.or_assoc, ← List.any_append, ← nameEnc_take s k hkl] at hput
      go_wp2_with fail
      go_fit hput
      rintro e w2 ⟨rfl, o3, hw2, hk2⟩
      have hk3 := hkp.trans hk2
      clear hput hwr hkp hk2 hv hk1 hw1
      go_wp2
      go_roundw
      case rel => exact ⟨k + 1, by omega, by go_num, o3, hw2, hk3⟩
      case measure => simp [RowKit.intOf]; omega
    · have hke : k = s.size := by omega
      go_wp2
      go_end0
      rw [hke, show s.size + 1 = (nameEnc s).length from (nameEnc_length s).symm, List.take_length] at hwr
      exact ⟨rfl, o2, hwr, hkp⟩

theorem Wr.grown {w w' : World} {B g : Nat} {o : Option Nat} {nums : List Int} {x y : Bool} (h : Wr w B g o nums x y) {row : Option Nat} (hg : w.grownBy w' row) (h1 : row ≠ some g) (h2 : o = none ∨ o ≠ row) : Wr w' B g o nums x y := by
  obtain ⟨v, hv, hr, ho⟩ := h.row
  have hb : w'.heap[g]? = w.heap[g]? := hg.block g h.lt (fun e => h1 e.symm)
  refine ⟨h.low, Nat.lt_of_lt_of_le h.lt hg.size, ⟨v, (World.cell?_of_block (w := w) (a := ⟨g, 0, none⟩) hb).trans hv, hr.kept hg (by rw [ho]; exact h2), ho⟩, h.ne, (World.cell?_of_block (w := w) (a := ⟨g, 1, none⟩) hb).trans h.c1, (World.cell?_of_block (w := w) (a := ⟨g, 2, none⟩) hb).trans h.c2, fun j => (World.frozen?_of_block (w := w) (a := ⟨g, j, none⟩) hb).trans (h.fz j)⟩

theorem Kept.grown {g : Nat} {w w' w2 : World} {o o' : Option Nat} (h : Kept g w o w' o') {row : Option Nat} (hg : w'.grownBy w2 row) (hr : ∀ k, row = some k → w.heap.size ≤ k) : Kept g w o w2 o' :=
  ⟨hg.os.trans h.os, hg.tape.trans h.tape, hg.output.trans h.output, Nat.le_trans h.size hg.size, fun r hr' hrg hro => (hg.block r (Nat.lt_of_lt_of_le hr' h.size) (fun e => by have := hr r e.symm; omega)).trans (h.block r hr' hrg hro), h.own⟩

theorem PutSrc.own {g base g2 n c : Nat} {w : World} {l : List Int} (h : w.ownsRow base 3 1 (.slice (some ⟨g2, 0, none⟩) n c) n (intsI l)) (hne : g2 ≠ g) : PutSrc g w (some ⟨g2, 0, none⟩) c l := by
  have hl : l.length = n := by have := h.1; simpa using this
  refine .inr ⟨_, rfl, .inr ⟨g2, 0, rfl, (h.lt g2 rfl).2, hne, fun j x hj => ?_⟩⟩
  have hjl := (List.getElem?_eq_some_iff.1 hj).1
  rw [Nat.zero_add, h.cellAt j (by omega)]
  simp [hj]

def listEnc (l : List Int) : List Int := (l.length : Int) :: l

set_option maxHeartbeats 1600000 in
set_option maxRecDepth 1000000 in
theorem list_calls {w : World} {B g : Nat} {o : Option Nat} {nums l : List Int} {x y : Bool} (h : Wr w B g o nums x y) {a : Option Addr} {cap : Nat} (hs : PutSrc g w a cap l) (hlen : nums.length + l.length ≤ 100000000000) (hB : B ≤ w.heap.size) :
    Calls Tryz.prog 72 #[.pointer (some ⟨g, 0, none⟩), .slice a l.length cap] w fun e w' => e = .returned (.tuple #[]) ∧ ∃ o', Wr w' B g o' (nums ++ listEnc l) (x || (listEnc l).any bad) y ∧ Kept g w o w' o' := by
  obtain ⟨i0, hi, hz0, hz1, hz2⟩ := info_parts info3
  have own1 : (w.alloc (.cells #[.int .i64 (l.length : Int)] 3)).ownsRow w.heap.size 3 1 (.slice (some ⟨w.heap.size, 0, none⟩) 1 1) 1 [.int .i64 (l.length : Int)] :=
    ⟨rfl, .inr ⟨w.heap.size, 1, #[.int .i64 (l.length : Int)], rfl, Nat.le_refl _, heap_alloc_new w _, by decide, by decide, rfl, rfl⟩⟩
  rcases hs with ⟨rfl, rfl, rfl⟩ | ⟨ad, rfl, hs⟩
  · go_enter Tryz.func72, Tryz.ntmps72
    go_wp2_with fail
    go_fit (put_new h [(0 : Int)] 1 (by simp; simp at hlen; omega) hB)
    rintro e w1 ⟨rfl, o1, hw1, hk1⟩
    go_wp2
    go_end0
    exact ⟨rfl, o1, hw1, hk1⟩
  · go_enter Tryz.func72, Tryz.ntmps72
    go_wp2_with (first | (at_builtin; refine wpList_append_own_at _ rfl _ _ 25 rfl w.heap.size 3 i0 (.int .i64 0) 1 8 Tryz.underlying25 hi hz0 hz1 hz2 rfl (by decide) _ _ _ rfl own1 ad l.length cap (intsI l) rfl ?c0 ?c1 ?c2 ?c3 ?c4 ?c5 ?_))
    case c0 => simp [intsI]
    case c1 =>
      intro j u hj
      simp only [intsI, List.getElem?_map] at hj
      cases hn : l[j]? with
      | none => rw [hn] at hj; cases hj
      | some n =>
        rw [hn] at hj
        have e : u = .int .i64 n := by simpa using hj.symm
        subst e
        rcases hs with e | ⟨b, o2, rfl, hb, hbg, hc⟩
        · subst e; simp at hn
        · rw [Addr.add_lit, World.cell?_alloc_old _ _ _ (Nat.ne_of_lt hb)]
          exact hc j n hn
    case c2 => intro u hu; simp only [intsI, List.mem_map] at hu; obtain ⟨_, _, rfl⟩ := hu; rfl
    case c3 => unfold maxLen; omega
    case c4 => omega
    case c5 => simp
    intro v' w1 hown hgr hnil hat
    obtain ⟨g2, c2, rfl, hg2, hg2'⟩ := own_form hown hnil
    have hat2 : w.heap.size ≤ g2 := hg2
    have hlt := h.lt
    have hw1 : Wr w1 B g o nums x y := (h.alloc _).grown hgr (by simp [Value.ownBlock]; omega) (by
      by_cases e : o = some w.heap.size
      · exact absurd e h.fresh
      · exact .inr (by simpa [Value.ownBlock] using e))
    have hk1 : Kept g w o w1 o := (Kept.alloc g w o _).grown hgr (by intro k hk; simp [Value.ownBlock] at hk; omega)
    have hown2 : w1.ownsRow w.heap.size 3 1 (.slice (some ⟨g2, 0, none⟩) (1 + l.length) c2) (1 + l.length) (intsI (listEnc l)) := by simpa only [listEnc, intsI, List.map_cons, List.singleton_append] using hown
    have hput := put_calls hw1 (PutSrc.own hown2 (by omega)) (by simp [listEnc]; omega) (Nat.le_trans hB hk1.size)
    rw [show (listEnc l).length = 1 + l.length by simp [listEnc]; omega] at hput
    clear hown hown2 hgr hnil hat hw1 own1 hs
    go_wp2_with fail
    go_fit hput
    rintro e w2 ⟨rfl, o2, hw2, hk2⟩
    go_wp2
    go_end0
    exact ⟨rfl, o2, hw2, hk1.trans hk2⟩
end Go.Proofs.YtcedalofcekdkaaGreatDoor
end
