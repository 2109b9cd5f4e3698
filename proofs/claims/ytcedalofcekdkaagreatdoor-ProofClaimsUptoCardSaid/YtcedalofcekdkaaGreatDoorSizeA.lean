/- formula.Size ends; the writer: a whole formula. -/
import Derived.Test.YtcedalofcekdkaaGreatDoorMemA
import Derived.RangeFuncNested
import Derived.RangeFuncBound
import Derived.RangeFuncCalls
import Derived.RangeFuncLeaves
import Derived.RangeFuncFrom
import Derived.Shelf.Abstract
import Derived.Shelf.RegionOpen
import Derived.WalkKit
import Derived.OwnWalkIn
import Derived.TacticsInMore
import Derived.LoopNIn
import Derived.LoopIn
import Derived.Laws.EntriesVeiled
import Derived.Test.YtcedalofcekdkaaGreatDoorWrA
set_option linter.unusedSimpArgs false
set_option linter.unusedVariables false
section
namespace Go.Proofs.YtcedalofcekdkaaGreatDoor
open Go.RowKit Go.Shelf
attribute [local go_sem] Oper.semAt_some

structure KeepC (B : Nat) (W W' : World) : Prop where
  size : W.heap.size ≤ W'.heap.size
  same : ∀ (r : Nat) (o : Obj), W.heap[r]? = some o → o.isCells = true → r ≠ B → W'.heap[r]? = some o

theorem KeepC.refl (B : Nat) (W : World) : KeepC B W W := ⟨Nat.le_refl _, fun _ _ h _ _ => h⟩
theorem KeepC.trans {B : Nat} {X Y Z : World} (h : KeepC B X Y) (k : KeepC B Y Z) : KeepC B X Z :=
  ⟨Nat.le_trans h.size k.size, fun r o h1 h2 h3 => k.same r o (h.same r o h1 h2 h3) h2 h3⟩
theorem KeepC.alloc (B : Nat) (W : World) (O : Obj) : KeepC B W (W.alloc O) :=
  ⟨by simp, fun r o h1 _ _ => (Below.heap_alloc W O r (Array.getElem?_eq_some_iff.1 h1).1).trans h1⟩
theorem KeepC.putObj {B : Nat} (W : World) (l : Nat) (o o' : Obj) (h : W.heap[l]? = some o) (hc : o.isCells = false) : KeepC B W (W.putObj l o') :=
  ⟨by simp, fun r o2 h1 h2 _ => (World.putObj_heap_other (fun e => by subst e; rw [h] at h1; cases h1; rw [hc] at h2; cases h2)).trans h1⟩
theorem KeepC.cell {B : Nat} {W W' : World} (h : KeepC B W W') {p : Addr} {v : Value} (hp : p.block ≠ B) (hc : W.cell? p = some v) : W'.cell? p = some v := by
  have key : ∃ o, W.heap[p.block]? = some o ∧ o.isCells = true := by
    unfold World.cell? at hc
    split at hc <;> first | exact ⟨_, by assumption, rfl⟩ | cases hc
  obtain ⟨o, h1, h2⟩ := key
  rw [World.cell?_of_block (a := p) ((h.same _ o h1 h2 hp).trans h1.symm)]
  exact hc

def Reads (w0 W : World) : Prop := ∀ (p : Addr) (v : Value), p.block < w0.heap.size → w0.cell? p = some v → W.cell? p = some v
theorem Reads.keep {w0 W W' : World} {B : Nat} (h : Reads w0 W) (hk : KeepC B W W') (hB : w0.heap.size ≤ B) : Reads w0 W' := fun p v hp hc => hk.cell (by omega) (h p v hp hc)

theorem KeepC.setSelf (B : Nat) (W : World) (v : Value) : KeepC B W (W.setCell ⟨B, 0, none⟩ v) :=
  ⟨by rw [World.size_setCell]; exact Nat.le_refl _, fun r o h1 _ h3 => ((grownBy_setCell' W B v).block r (Array.getElem?_eq_some_iff.1 h1).1 (fun e => by cases e; exact h3 rfl)).trans h1⟩

theorem sz_app : ∀ a b : List FT, sz (a ++ b) = sz a + sz b
  | [], b => by simp [sz]
  | .node op name val bound args :: r, b => by
    rw [List.cons_append]
    simp only [sz]
    rw [sz_app r b]
    omega
theorem sz_succ (l : List FT) (k : Nat) (f : FT) (h : l[k]? = some f) : sz (l.take (k + 1)) = sz (l.take k) + sz [f] := by
  rw [List.take_add_one, h, sz_app]; simp
theorem sz_take_le (l : List FT) (k : Nat) : sz (l.take k) ≤ sz l := by
  conv => rhs; rw [← List.take_append_drop k l, sz_app]
  exact Nat.le_add_right _ _

theorem room_of_none' {F : Fence} (hd : F.depth = none) (k : Nat) : F.room k := fun d h => by rw [hd] at h; cases h
theorem RoundIn.anyDepth' {F : Fence} (hd : F.depth = none) {m m' : Nat} {P : Program} {l : Nat} {f : FuncId} {tmps : Array Value} {assign body : Code} {w : World} {R : Ending → World → Prop}
    (h : RoundIn F m P l f tmps assign body w R) : RoundIn F m' P l f tmps assign body w R := ⟨h.1, fun c cs _ => h.2 c cs (room_of_none' hd _)⟩
theorem YieldAt.anyDepth' {F : Fence} (hd : F.depth = none) {m : Nat} (m' : Nat) {P : Program} {l : Nat} {args : Array Value} {W : World} {R : Ending → World → Prop} (h : YieldAt F m P l args W R) : YieldAt F m' P l args W R := by
  obtain ⟨fn, tmps, assign, body, hy, hR⟩ := h
  exact ⟨fn, tmps, assign, body, hy, RoundIn.anyDepth' hd hR⟩

abbrev VV := Value × Value

set_option maxRecDepth 100000 in
set_option maxHeartbeats 2000000 in
theorem walk_in (F : Fence) (hd : F.depth = none) (h248 : F.fn 248) (hro : F.round = none) (w0 : World) (l n1 Bn Yb Sb N : Nat) (hBn : w0.heap.size ≤ Bn) (hYb : Yb ≠ Bn) (hSb : Sb ≠ Bn) (hNb : N ≤ 1000000000000) (J Jx : List VV → World → Prop) (hJa : AbidesFrom n1 J)
    (hY : ∀ m pre x W, J pre W → pre.length < N → YieldAt F m Tryz.prog l #[x.1, x.2] W fun e W' =>
      (e = .returned (.bool true) ∧ J (pre ++ [x]) W' ∧ KeepC Bn W W') ∨ (e = .returned (.bool false) ∧ Jx (pre ++ [x]) W')) :
    ∀ (s : Nat) (f : FT), sz [f] ≤ s → ∀ (n : Nat) (d : Int) (v : Value) (pre : List VV) (W : World), FormV w0 v f → Reads w0 W → Bn < W.heap.size → W.cell? ⟨Yb, 0, none⟩ = some (.func (.yield l) #[] #[]) → W.cell? ⟨Sb, 0, none⟩ = some (.func (.func 248) #[] #[.pointer (some ⟨Yb, 0, none⟩), .pointer (some ⟨Sb, 0, none⟩)]) →
      J pre W → pre.length + sz [f] ≤ N →
      CallsIn F n Tryz.prog 248 #[.int .i64 d, v, .pointer (some ⟨Yb, 0, none⟩), .pointer (some ⟨Sb, 0, none⟩)] W fun e W' =>
        (e = .returned (.bool true) ∧ (∃ q, q.length = sz [f] ∧ J (pre ++ q) W') ∧ KeepC Bn W W') ∨ (e = .returned (.bool false) ∧ ∃ q, Jx (pre ++ q) W')
  | 0, .node op name val bound args, hs => by simp [sz] at hs
  | s + 1, .node op name val bound args, hs => by
    intro n d v pre W hv hR hBW hyb hsb hJ hN
    have hdd : ∀ k : Nat, (F.depth.isSome = true → 1 ≤ k) := fun k h => by rw [hd] at h; cases h
    obtain ⟨u, rfl, a, cap, rfl, ha⟩ := hv
    rw [sz_node] at hs hN ⊢
    have hszl := length_sz args
    have hkb : KeepC Bn W (W.alloc (Obj.cells #[Value.int .i64 op, Value.string name, Value.int .i64 val, Value.int .i64 bound, Value.slice a args.length cap] 48)) := KeepC.alloc _ _ _
    have hJb : J pre (W.alloc (Obj.cells #[Value.int .i64 op, Value.string name, Value.int .i64 val, Value.int .i64 bound, Value.slice a args.length cap] 48)) := hJa _ _ _ none hJ (World.grownBy_alloc W _ none) (fun r e => by cases e)
    obtain ⟨fn, tmps, assign, body, hy, hRo⟩ := hY (n - 1) pre (.int .i64 d, .agg #[Value.int .i64 op, Value.string name, Value.int .i64 val, Value.int .i64 bound, Value.slice a args.length cap]) _ hJb (by omega)
    dsimp only at hy
    have y1 := hkb.cell (p := ⟨Yb, 0, none⟩) hYb hyb
    have hbox : ∀ i x, (#[Value.int .i64 op, Value.string name, Value.int .i64 val, Value.int .i64 bound, Value.slice a args.length cap])[i]? = some x → (W.alloc (Obj.cells #[Value.int .i64 op, Value.string name, Value.int .i64 val, Value.int .i64 bound, Value.slice a args.length cap] 48)).cell? ⟨W.heap.size, i, none⟩ = some x := fun i x hx => by
      rw [World.cell?_alloc_new]; exact hx
    refine callsIn_of_wp Tryz.func248 rfl h248 ?_ hro
    simp only [Tryz.ntmps248, List.size_toArray, List.length_cons, List.length_nil, Nat.reduceAdd, Nat.reduceSub, Array.replicate_succ, Array.replicate_zero, List.push_toArray, List.append_toArray, List.nil_append, List.cons_append]
    gi_wp2
    refine hRo.mono ?_
    clear hRo hy
    rintro e W1 (⟨rfl, hJ1, hk1⟩ | ⟨rfl, hx1⟩)
    · generalize hx : ((Value.int .i64 d, Value.agg #[Value.int .i64 op, Value.string name, Value.int .i64 val, Value.int .i64 bound, Value.slice a args.length cap]) : VV) = x0 at hJ1
      have hkw := hkb.trans hk1
      have f4 := hk1.cell (p := ⟨W.heap.size, 4, none⟩) (by show W.heap.size ≠ Bn; omega) (hbox 4 _ rfl)
      clear hbox hkb hk1 y1 hJb hJ hx
      gi_wp2
      gi_loopw [17] (fun i wr => ∃ k : Nat, k ≤ args.length ∧ i = .int .i64 k ∧ ∃ q, q.length = 1 + sz (args.take k) ∧ J (pre ++ q) wr ∧ KeepC Bn W wr) (fun i _ => args.length - (RowKit.intOf i).toNat)
      case atStart => exact ⟨0, Nat.zero_le _, rfl, [x0], by simp [sz], hJ1, hkw⟩
      case round =>
        obtain ⟨k, hk, rfl, q, hq, hJr, hkr⟩ := hrel
        by_cases hkl : k < args.length
        · obtain ⟨b, o5, op', name', val', bound', args', u', rfl, hb, hj, hu, d0, d1, d2, d3, d4⟩ := FormsV.get ha hkl
          have hRr := hR.keep hkr hBn
          have e0 := hRr ⟨b, o5 + k * 5, none⟩ _ hb d0
          have e1 := hRr ⟨b, o5 + k * 5 + 1, none⟩ _ hb d1
          have e2 := hRr ⟨b, o5 + k * 5 + 2, none⟩ _ hb d2
          have e3 := hRr ⟨b, o5 + k * 5 + 3, none⟩ _ hb d3
          have e4 := hRr ⟨b, o5 + k * 5 + 4, none⟩ _ hb d4
          obtain ⟨a', cap', rfl, hu'⟩ := hu
          have hsz := sz_get hj
          have hss := sz_succ args k _ hj
          have hle := sz_take_le args (k + 1)
          have hal : ∀ O, KeepC Bn W (wr.alloc O) := fun O => hkr.trans (KeepC.alloc _ _ _)
          have s2 : ∀ O, (wr.alloc O).cell? ⟨Sb, 0, none⟩ = _ := fun O => (hal O).cell (p := ⟨Sb, 0, none⟩) hSb hsb
          have hrec := fun (d' : Int) O => walk_in F hd h248 hro w0 l n1 Bn Yb Sb N hBn hYb hSb hNb J Jx hJa hY s (.node op' name' val' bound' args') (by omega) (n - 1) d' _ (pre ++ q) (wr.alloc O) ⟨_, rfl, a', cap', rfl, hu'⟩ (hR.keep (hal O) hBn) (by have := (hal O).size; omega) ((hal O).cell (p := ⟨Yb, 0, none⟩) hYb hyb) ((hal O).cell (p := ⟨Sb, 0, none⟩) hSb hsb) (hJa _ _ _ none hJr (World.grownBy_alloc wr O none) (fun r e => by cases e)) (by rw [List.length_append]; omega)
          clear d0 d1 d2 d3 d4 hR ha hyb hsb hY hJ1 f4
          gi_wp2
          refine (hrec _ _).mono ?_
          clear hrec s2
          rintro e W2 (⟨rfl, ⟨q2, hq2, hJ2⟩, hk2⟩ | ⟨rfl, q2, hx2⟩)
          · have hk3 := (hal _).trans hk2
            clear hal e0 e1 e2 e3 e4 hRr
            gi_wp2
            go_roundw
            case rel => exact ⟨k + 1, by omega, by go_num, q ++ q2, by rw [List.length_append]; omega, by rw [← List.append_assoc]; exact hJ2, hk3⟩
            case measure => simp [RowKit.intOf]; omega
          · clear hal e0 e1 e2 e3 e4 hRr
            gi_wp2
            go_ret
            exact .inr ⟨rfl, q ++ q2, by rw [← List.append_assoc]; exact hx2⟩
        · have hke : k = args.length := by omega
          rw [hke, List.take_length] at hq
          gi_wp2
          go_ret
          exact .inl ⟨rfl, ⟨q, hq, hJr⟩, hkr⟩
    · gi_wp2
      go_ret
      exact .inr ⟨rfl, _, hx1⟩

theorem cell_new2 (W : World) (v : Value) (t : TypeId) : (W.alloc (.cells #[v] t)).cell? ⟨W.heap.size, 0, none⟩ = some v ∧ (W.alloc (.cells #[v] t)).frozen? ⟨W.heap.size, 0, none⟩ = false := by
  have h := World.alloc_heap_new W (.cells #[v] t)
  generalize W.alloc (.cells #[v] t) = W2 at h ⊢
  generalize W.heap.size = B at h ⊢
  constructor
  · unfold World.cell?; rw [h]; rfl
  · unfold World.frozen?; rw [h]; rfl

theorem grown_two (W : World) (O O2 : Obj) : W.grownBy ((W.alloc O).alloc O2) none := by
  have g := World.grownBy_alloc W O none
  have g2 := World.grownBy_alloc (W.alloc O) O2 none
  exact ⟨g2.os.trans g.os, g2.tape.trans g.tape, g2.output.trans g.output, Nat.le_trans g.size g2.size, fun k hk he => (g2.block k (Nat.lt_of_lt_of_le hk g.size) he).trans (g.block k hk he)⟩

set_option maxRecDepth 100000 in
set_option maxHeartbeats 2000000 in
theorem nodes1_in (F : Fence) (hd : F.depth = none) (n : Nat) (h247 : F.fn 247) (h248 : F.fn 248) (hro : F.round = none) (w0 : World) (l Bn Bt N : Nat) (hBn : w0.heap.size ≤ Bn) (hBt : Bt ≠ Bn) (hNb : N ≤ 1000000000000) (op : Int) (name : ByteArray) (val bound : Int) (a : Option Addr) (cap : Nat) (args : List FT)
    (hv : FormV w0 (.agg #[Value.int .i64 op, Value.string name, Value.int .i64 val, Value.int .i64 bound, Value.slice a args.length cap]) (.node op name val bound args)) (hN : sz [.node op name val bound args] ≤ N) (J Jx : List VV → World → Prop)
    (W : World) (hJa : AbidesFrom W.heap.size J)
    (hY : ∀ pre x W, J pre W → pre.length < N → YieldAt F (n - 1) Tryz.prog l #[x.1, x.2] W fun e W' =>
      (e = .returned (.bool true) ∧ J (pre ++ [x]) W' ∧ KeepC Bn W W') ∨ (e = .returned (.bool false) ∧ Jx (pre ++ [x]) W'))
    (hR : Reads w0 W) (hBW : Bn < W.heap.size) (hb : ∀ i x, (#[Value.int .i64 op, Value.string name, Value.int .i64 val, Value.int .i64 bound, Value.slice a args.length cap])[i]? = some x → W.cell? ⟨Bt, i, none⟩ = some x) (h0 : J [] W) :
    CallsIn F n Tryz.prog 247 #[.func (.yield l) #[] #[], .pointer (some ⟨Bt, 0, none⟩)] W fun e W' => (∃ v, e = .returned v) ∧
      ((∃ ys, True ∧ J ys W') ∨ (∃ pre, True ∧ Jx pre W')) := by
  generalize hO2 : Obj.cells #[Value.func (Fn.func 248) #[] #[Value.pointer (some ⟨W.heap.size, 0, none⟩), Value.pointer (some ⟨W.heap.size + 1, 0, none⟩)]] 305 = O2
  generalize hO1 : Obj.cells #[Value.func (Fn.yield l) #[] #[]] 305 = O1
  have hk2 : KeepC Bn W ((W.alloc O1).alloc O2) := (KeepC.alloc Bn W _).trans (KeepC.alloc Bn _ _)
  have hJ2 := hJa _ _ _ none h0 (grown_two W O1 O2) (fun r e => by cases e)
  have f0 := hk2.cell (p := ⟨Bt, 0, none⟩) hBt (hb 0 _ rfl)
  have f1 := hk2.cell (p := ⟨Bt, 1, none⟩) hBt (hb 1 _ rfl)
  have f2 := hk2.cell (p := ⟨Bt, 2, none⟩) hBt (hb 2 _ rfl)
  have f3 := hk2.cell (p := ⟨Bt, 3, none⟩) hBt (hb 3 _ rfl)
  have f4 := hk2.cell (p := ⟨Bt, 4, none⟩) hBt (hb 4 _ rfl)
  have b1 := ((KeepC.alloc Bn (W.alloc O1) O2)).cell (p := ⟨W.heap.size, 0, none⟩) (by show W.heap.size ≠ Bn; omega) (show (W.alloc O1).cell? ⟨W.heap.size, 0, none⟩ = some (Value.func (Fn.yield l) #[] #[]) by rw [← hO1]; exact (cell_new2 W _ _).1)
  have b2 : ((W.alloc O1).alloc O2).cell? ⟨W.heap.size + 1, 0, none⟩ = some (Value.func (Fn.func 248) #[] #[Value.pointer (some ⟨W.heap.size, 0, none⟩), Value.pointer (some ⟨W.heap.size + 1, 0, none⟩)]) := by
    have := (cell_new2 (W.alloc O1) (Value.func (Fn.func 248) #[] #[Value.pointer (some ⟨W.heap.size, 0, none⟩), Value.pointer (some ⟨W.heap.size + 1, 0, none⟩)]) 305).1
    rw [World.size_alloc, hO2] at this; exact this
  have hrec := walk_in F hd h248 hro w0 l W.heap.size Bn W.heap.size (W.heap.size + 1) N hBn (by omega) (by omega) hNb J Jx hJa (fun m pre x W hj hl => YieldAt.anyDepth' hd m (hY pre x W hj hl)) _ _ (Nat.le_refl _) (n - 1) 1 _ [] _ hv (hR.keep hk2 hBn) (by have := hk2.size; omega) b1 b2 hJ2 (by simpa using hN)
  rw [← hO1, ← hO2] at hrec f0 f1 f2 f3 f4
  clear hO1 hO2 hk2 b1 b2 hJ2
  refine callsIn_of_wp Tryz.func247 rfl h247 ?_ hro
  simp only [Tryz.ntmps247, List.size_toArray, List.length_cons, List.length_nil, Nat.reduceAdd, Nat.reduceSub, Array.replicate_succ, Array.replicate_zero, List.push_toArray, List.append_toArray, List.nil_append, List.cons_append]
  have hdd : ∀ k : Nat, (F.depth.isSome = true → 1 ≤ k) := fun k h => by rw [hd] at h; cases h
  gi_wp2
  refine hrec.mono ?_
  clear hrec f0 f1 f2 f3 f4
  rintro e W1 (⟨rfl, ⟨q, hq, hJ1⟩, _⟩ | ⟨rfl, q, hx⟩)
  · gi_wp2
    go_end0
    exact ⟨⟨_, rfl⟩, .inl ⟨q, trivial, by simpa using hJ1⟩⟩
  · gi_wp2
    go_end0
    exact ⟨⟨_, rfl⟩, .inr ⟨q, trivial, by simpa using hx⟩⟩

theorem nodes_stops (F : Fence) (hd : F.depth = none) (n : Nat) (h247 : F.fn 247) (h248 : F.fn 248) (hro : F.round = none) (w0 : World) (Bn Bt N : Nat) (hBn : w0.heap.size ≤ Bn) (hBt : Bt ≠ Bn) (hNb : N ≤ 1000000000000) (op : Int) (name : ByteArray) (val bound : Int) (a : Option Addr) (cap : Nat) (args : List FT)
    (hv : FormV w0 (.agg #[Value.int .i64 op, Value.string name, Value.int .i64 val, Value.int .i64 bound, Value.slice a args.length cap]) (.node op name val bound args)) (hN : sz [.node op name val bound args] ≤ N)
    (w : World) (hR : Reads w0 w) (hBW : Bn < w.heap.size) (hBtW : Bt < w.heap.size) (hB0 : w0.heap.size ≤ w.heap.size) (hb : ∀ i x, (#[Value.int .i64 op, Value.string name, Value.int .i64 val, Value.int .i64 bound, Value.slice a args.length cap])[i]? = some x → w.cell? ⟨Bt, i, none⟩ = some x) :
    SeqStopsK F n Tryz.prog 247 #[.pointer (some ⟨Bt, 0, none⟩)] (fun x : VV => #[x.1, x.2]) (KeepC Bn) (fun _ => True) (fun _ => True) N w := fun l J Jx W hW hJ _ hY h0 =>
  nodes1_in F hd n h247 h248 hro w0 l Bn Bt N hBn hBt hNb op name val bound a cap args hv hN J Jx W hJ hY (fun p v hp hc => (hW.cell (by omega)).trans (hR p v hp hc)) (Nat.lt_of_lt_of_le hBW hW.size) (fun i x hx => (hW.cell (p := ⟨Bt, i, none⟩) hBtW).trans (hb i x hx)) h0

set_option maxHeartbeats 1000000 in
theorem nodes_in (F : Fence) (n : Nat) (h176 : F.fn 176) (hro : F.round = none) (cs : Array Value) (hcs : cs.size = 5) (w : World) (op : Int) (name : ByteArray) (val bound : Int) (a : Option Addr) (cap len : Nat) (hc : cs = #[Value.int .i64 op, Value.string name, Value.int .i64 val, Value.int .i64 bound, Value.slice a len cap]) :
    CallsIn F n Tryz.prog 176 #[.agg cs] w fun e w' => e = .returned (.func (.func 247) #[] #[.pointer (some ⟨w.heap.size, 0, none⟩)]) ∧ w' = w.alloc (.cells cs 48) := by
  subst hc
  refine callsIn_of_wp Tryz.func176 rfl h176 ?_ hro
  simp only [Tryz.ntmps176, List.size_toArray, List.length_cons, List.length_nil, Nat.reduceAdd, Nat.reduceSub, Array.replicate_succ, Array.replicate_zero, List.push_toArray, List.append_toArray, List.nil_append, List.cons_append]
  gi_wp2
  go_ret
  exact ⟨rfl, rfl⟩

set_option maxRecDepth 100000 in
set_option maxHeartbeats 2000000 in

theorem size_calls (w : World) (v : Value) (f : FT) (hv : FormV w v f) (hN : sz [f] ≤ 1000000000000) :
    Calls Tryz.prog 140 #[v] w fun e w' => (∃ d : Int, e = .returned (.int .i64 d)) ∧ Below w.heap.size w w' := by
  cases f with
  | node op name val bound args =>
    have hv0 := hv
    obtain ⟨u, rfl, a, cap, rfl, ha⟩ := hv
    refine (callsIn_wide (n := 3)).1 ?_
    refine callsIn_of_wp_marks Tryz.func140 rfl trivial ?_ rfl
    simp only [Tryz.ntmps140, List.size_toArray, List.length_cons, List.length_nil, Nat.reduceAdd, Nat.reduceSub, Array.replicate_succ, Array.replicate_zero, List.push_toArray, List.append_toArray, List.nil_append, List.cons_append]
    gi_wp2_with ((try refine ⟨trivial, ?_⟩); gi_at_call 176; refine (nodes_in Fence.wide _ trivial rfl _ rfl _ _ _ _ _ _ _ _ rfl).mono ?_; rintro e w' ⟨rfl, rfl⟩)
    have hB3 : Below w.heap.size w (((w.alloc (Obj.cells #[Value.int .i64 op, Value.string name, Value.int .i64 val, Value.int .i64 bound, Value.slice a args.length cap] 48)).alloc (Obj.cells #[Value.int IntKind.i64 0] 3)).alloc (Obj.cells #[Value.int .i64 op, Value.string name, Value.int .i64 val, Value.int .i64 bound, Value.slice a args.length cap] 48)) := (((Below.refl _ w).alloc (Nat.le_refl _) _).alloc (by simp) _).alloc (by simp; omega) _
    have hc1 := cell_new2 (w.alloc (Obj.cells #[Value.int .i64 op, Value.string name, Value.int .i64 val, Value.int .i64 bound, Value.slice a args.length cap] 48)) (Value.int IntKind.i64 0) 3
    rw [World.size_alloc] at hc1
    have hs : (((w.alloc (Obj.cells #[Value.int .i64 op, Value.string name, Value.int .i64 val, Value.int .i64 bound, Value.slice a args.length cap] 48)).alloc (Obj.cells #[Value.int IntKind.i64 0] 3)).alloc (Obj.cells #[Value.int .i64 op, Value.string name, Value.int .i64 val, Value.int .i64 bound, Value.slice a args.length cap] 48)).cell? ⟨w.heap.size + 1, 0, none⟩ = some (.int .i64 0) := cell_kept hc1.1 (World.grownBy_alloc _ _ none) (fun r e => by cases e)
    have hf : (((w.alloc (Obj.cells #[Value.int .i64 op, Value.string name, Value.int .i64 val, Value.int .i64 bound, Value.slice a args.length cap] 48)).alloc (Obj.cells #[Value.int IntKind.i64 0] 3)).alloc (Obj.cells #[Value.int .i64 op, Value.string name, Value.int .i64 val, Value.int .i64 bound, Value.slice a args.length cap] 48)).frozen? ⟨w.heap.size + 1, 0, none⟩ = false := (frozen_kept hc1.1 (World.grownBy_alloc _ _ none) (fun r e => by cases e)).trans hc1.2
    have hbt : ∀ i x, (#[Value.int .i64 op, Value.string name, Value.int .i64 val, Value.int .i64 bound, Value.slice a args.length cap])[i]? = some x → (((w.alloc (Obj.cells #[Value.int .i64 op, Value.string name, Value.int .i64 val, Value.int .i64 bound, Value.slice a args.length cap] 48)).alloc (Obj.cells #[Value.int IntKind.i64 0] 3)).alloc (Obj.cells #[Value.int .i64 op, Value.string name, Value.int .i64 val, Value.int .i64 bound, Value.slice a args.length cap] 48)).cell? ⟨w.heap.size + 1 + 1, i, none⟩ = some x := fun i x hx => by
      have := World.cell?_alloc_new ((w.alloc (Obj.cells #[Value.int .i64 op, Value.string name, Value.int .i64 val, Value.int .i64 bound, Value.slice a args.length cap] 48)).alloc (Obj.cells #[Value.int IntKind.i64 0] 3)) #[Value.int .i64 op, Value.string name, Value.int .i64 val, Value.int .i64 bound, Value.slice a args.length cap] 48 i
      simp only [World.size_alloc] at this
      rw [this]; exact hx
    refine wpIn_rangeFunc_ownF rfl (by omega) (gf := 247) (lb := #[.pointer (some ⟨w.heap.size + 1 + 1, 0, none⟩)]) rfl trivial (enters_of Tryz.func247 (by kernel_rfl) rfl)
      (nodes_stops Fence.wide rfl (3 - 1) trivial trivial rfl w (w.heap.size + 1) (w.heap.size + 1 + 1) (sz [.node op name val bound args]) (by omega) (by omega) hN op name val bound a cap args hv0 (Nat.le_refl _) _ (fun p v hp hc => (hB3.cell hp).trans hc) (by simp) (by simp) (by simp; omega) hbt)
      KeepC.trans (fun W l o o' _ h1 h2 _ => KeepC.putObj W l o o' h1 h2) (Below.refl _ _) (fun _ => rfl)
      (fun _ W => (∃ d, W.cell? ⟨w.heap.size + 1, 0, none⟩ = some (.int .i64 d) ∧ W.frozen? ⟨w.heap.size + 1, 0, none⟩ = false) ∧ Below w.heap.size w W)
      (fun _ _ _ => False)
      (OwnFrom.and (Own.from (fun s A B row hs hg hr => by obtain ⟨d, h1, h2⟩ := hs; exact ⟨d, cell_kept h1 hg hr, (frozen_kept h1 hg hr).trans h2⟩) _) (ownFrom_below (Nat.le_refl _) (by simp; omega)))
      (fun _ _ _ _ _ hs _ _ => hs)
      ⟨⟨0, hs, hf⟩, hB3⟩
      (fun x => { tmps := #[.agg #[Value.int .i64 op, Value.string name, Value.int .i64 val, Value.int .i64 bound, Value.slice a args.length cap], .pointer (some ⟨w.heap.size, 0, none⟩), .int .i64 0, .pointer (some ⟨w.heap.size + 1, 0, none⟩), .agg #[Value.int .i64 op, Value.string name, Value.int .i64 val, Value.int .i64 bound, Value.slice a args.length cap], .func (.func 247) #[] #[.pointer (some ⟨w.heap.size + 1 + 1, 0, none⟩)], x.1, x.2, undef, undef, undef], defers := [] }) ?assign ?body ?done ?stop
    case assign =>
      intro l x W K hK
      gi_wp2
      simpa using hK
    case body =>
      rintro l pre x W ⟨⟨d, hc, hf⟩, hB⟩ _
      gi_wp2
      exact ⟨KeepsOthers.setCell _ _ _, KeepC.setSelf _ _ _, ⟨_, World.cell?_setCell_same' _ _ _ (by rw [hc]; rfl), by rw [World.frozen?_setCell]; exact hf⟩, hB.setCell (p := ⟨w.heap.size + 1, 0, none⟩) (by simp) _⟩
    case done =>
      rintro D ys W hD _ ⟨⟨d, hc, _⟩, hB⟩ hK
      gi_wp2
      refine ⟨by simp, .inl ⟨_, _, rfl, run_takeDeferred hK, ?_⟩⟩
      exact ⟨_, results_tmp rfl _ _ _, ⟨d, rfl⟩, hB.trans (belowK_b (w := w) (Nat.le_refl _) W D _ _ (by simp at hD; omega) hK rfl rfl)⟩
    case stop =>
      rintro D c pre W _ _ h _
      exact h.elim
end Go.Proofs.YtcedalofcekdkaaGreatDoor
end

section
namespace Go.Proofs.YtcedalofcekdkaaGreatDoor
open Go.RowKit

theorem sz_enc : ∀ l : List FT, sz l ≤ (encF l).length
  | [] => by simp [sz]
  | .node op name val bound args :: r => by
    have h1 := sz_enc args
    have h2 := sz_enc r
    simp only [sz, encF, List.length_cons, List.length_append]; omega

theorem grownNone {w w' : World} (h : Below w.heap.size w w') : w.grownBy w' none := ⟨h.os, h.tape, h.output, h.size, fun k hk _ => h.block k hk⟩

set_option maxHeartbeats 3200000 in
set_option maxRecDepth 1000000 in
theorem whole_calls {w w0 : World} {g : Nat} {o : Option Nat} {nums : List Int} {x y : Bool} (h : Wr w w0.heap.size g o nums x y) {f : FT} {v : Value} (hv : FormV w0 v f) (hB : Below w0.heap.size w0 w) (hlen : nums.length + (encF [f]).length ≤ 10000000000) :
    Calls Tryz.prog 67 #[.pointer (some ⟨g, 0, none⟩), v] w fun e w' => e = .returned (.tuple #[]) ∧ ∃ o' y', Wr w' w0.heap.size g o' (nums ++ encF [f]) (x || (encF [f]).any bad) y' ∧ Kept g w o w' o' := by
  cases f with
  | node op name val bound args =>
    have hv0 := hv
    obtain ⟨u, rfl, a, cap, rfl, ha⟩ := hv
    have hlow := h.low
    have hown : ∀ k, o = some k → w0.heap.size ≤ k := fun k e => (h.own_lt k e).1
    have hfr := h.fresh
    have hgl := h.lt
    go_enter Tryz.func67, Tryz.ntmps67
    go_wp2_with fail
    generalize hwb : w.alloc (Obj.cells #[Value.int .i64 op, Value.string name, Value.int .i64 val, Value.int .i64 bound, Value.slice a args.length cap] 48) = wb
    have hr : Wr wb w0.heap.size g o nums x y := by rw [← hwb]; exact h.alloc _
    have hkb : Kept g w o wb o := by rw [← hwb]; exact Kept.alloc g w o _
    have hsb : wb.heap.size = w.heap.size + 1 := by rw [← hwb]; simp
    have hBb : Below w0.heap.size w0 wb := by rw [← hwb]; exact hB.alloc hB.size _
    have keep : ∀ {w2 : World} {o2' : Option Nat}, Kept g wb o w2 o2' → ∀ i x, (#[Value.int .i64 op, Value.string name, Value.int .i64 val, Value.int .i64 bound, Value.slice a args.length cap])[i]? = some x → w2.cell? ⟨w.heap.size, i, none⟩ = some x := fun hk i x hx => by
      rw [hk.cell (by omega) (by omega) hfr, ← hwb, World.cell?_alloc_new]; exact hx
    clear hwb
    go_fit (formula_calls (w0 := w0) (g := g) _ _ (Nat.le_refl _) wb o nums x y _ hr hv0 hBb hlen)
    rintro e w1 ⟨⟨d, rfl⟩, o1, hw1, hk1⟩
    have f0 := keep hk1 0 _ rfl
    have f1 := keep hk1 1 _ rfl
    have f2 := keep hk1 2 _ rfl
    have f3 := keep hk1 3 _ rfl
    have f4 := keep hk1 4 _ rfl
    have hB1 : Below w0.heap.size w0 w1 := hBb.trans (hk1.below hlow (by have := hBb.size; omega) hown)
    have hsz1 := hk1.size
    have z1 := hw1.c2
    have z2 := hw1.fz 2
    have t1 := hw1.setLarge true
    have t2 := hkb.trans (hk1.trans (Kept.setCell g w1 o1 2 (.bool true)))
    have hgrow : ∀ {w2 : World}, Below w1.heap.size w1 w2 → ∃ o', Wr w2 w0.heap.size g o' (nums ++ encF [.node op name val bound args]) (x || (encF [.node op name val bound args]).any bad) y ∧ Kept g w o w2 o' := fun hb2 =>
      ⟨o1, hw1.grown (row := none) (grownNone hb2) (fun e => by cases e) (by cases o1 with | none => exact .inl rfl | some k => exact .inr (fun e => by cases e)), hkb.trans (hk1.grown (row := none) (grownNone hb2) (fun k e => by cases e))⟩
    have hsc := size_calls w1 _ _ (hv0.below hB1) (Nat.le_trans (sz_enc _) (by omega))
    clear hr hk1 keep
    by_cases hd : 60 < d
    · go_wp2_with fail
      go_end0
      exact ⟨rfl, o1, true, t1, t2⟩
    · go_wp2_with fail
      go_fit hsc
      rintro e w2 ⟨⟨d2, rfl⟩, hb2⟩
      obtain ⟨o2, hw2, hk2⟩ := hgrow hb2
      have z1 := hw2.c2
      have z2 := hw2.fz 2
      have t1 := hw2.setLarge true
      have t2 := hk2.trans (Kept.setCell g w2 o2 2 (.bool true))
      by_cases hd2 : 400 < d2
      · go_wp2_with fail
        go_end0
        exact ⟨rfl, o2, true, t1, t2⟩
      · go_wp2_with fail
        go_end0
        exact ⟨rfl, o2, y, hw2, hk2⟩
end Go.Proofs.YtcedalofcekdkaaGreatDoor
end
