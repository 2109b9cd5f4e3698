/- proof.Parse, walked. -/
import Derived.Test.YtcedalofcekdkaaGreatDoorTextA
import Derived.Test.YtcedalofcekdkaaGreatDoorSealA
import Derived.Laws.ResultCell
import Derived.Deep.RegionHeld
import Derived.Outline
set_option linter.unusedSimpArgs false
set_option linter.unusedVariables false
namespace Go.Proofs.YtcedalofcekdkaaGreatDoor
open Go.RowKit Go.Lib

def Reads (ws : List ByteArray) (ns : List Nat) : Prop := (∀ n ∈ ns, n ≤ 99999) ∧ ws.map (·.data.toList) = ns.map Lib.decDigits

theorem Reads.at {ws : List ByteArray} {ns : List Nat} (h : Reads ws ns) {k : Nat} {x : ByteArray} (hk : ws[k]? = some x) : ∃ n, ns[k]? = some n ∧ n ≤ 99999 ∧ x.data.toList = Lib.decDigits n := by
  have h1 : (ws.map (·.data.toList))[k]? = some x.data.toList := by rw [List.getElem?_map, hk]; rfl
  rw [h.2, List.getElem?_map] at h1
  cases hn : ns[k]? with
  | none => rw [hn] at h1; cases h1
  | some n =>
    rw [hn] at h1
    exact ⟨n, rfl, h.1 n (List.mem_of_getElem? hn), (Option.some.inj h1).symm⟩

theorem Reads.ok {ws : List ByteArray} {ns : List Nat} (h : Reads ws ns) {k : Nat} {x : ByteArray} (hk : ws[k]? = some x) : ∃ n : Nat, n ≤ 99999 ∧ Lib.atoiAll x.data.toList = .ok (n : Int) ∧ x.data.toList = Lib.decDigits n := by
  obtain ⟨n, _, h1, h2⟩ := h.at hk
  exact ⟨n, h1, by rw [h2]; exact atoi_digits h1, h2⟩

theorem Reads.snoc {ws : List ByteArray} {ns : List Nat} {k : Nat} (h : Reads (ws.take k) ns) {x : ByteArray} (hk : ws[k]? = some x) {n : Nat} (hn : n ≤ 99999) (hx : x.data.toList = Lib.decDigits n) : Reads (ws.take (k + 1)) (ns ++ [n]) := by
  refine ⟨fun m hm => ?_, ?_⟩
  · rcases List.mem_append.1 hm with hm | hm
    · exact h.1 m hm
    · simp at hm; subst hm; exact hn
  · rw [List.take_add_one, hk, List.map_append, List.map_append, h.2]
    simp [hx]

theorem bytes_eq {a b : ByteArray} (h : a.data.toList = b.data.toList) : a = b := by
  obtain ⟨⟨a⟩⟩ := a
  obtain ⟨⟨b⟩⟩ := b
  simp at h
  rw [h]

theorem cut_mem {c : UInt8} : ∀ {s x : List UInt8}, x ∈ cut c s → x.length ≤ s.length
  | [], x, h => by simp [cut] at h; subst h; simp
  | b :: l, x, h => by
    unfold cut at h
    split at h
    · rcases List.mem_cons.1 h with rfl | h
      · simp
      · have := cut_mem h; simp; omega
    · split at h
      · simp at h; subst h; simp
      · rename_i y r hy
        rcases List.mem_cons.1 h with rfl | h
        · have := cut_mem (c := c) (s := l) (x := y) (by rw [hy]; simp); simp; omega
        · have := cut_mem (c := c) (s := l) (x := x) (by rw [hy]; simp [h]); simp; omega

theorem word_size {s x : ByteArray} (h : x ∈ wordsB s) : x.size ≤ s.size := by
  have h1 : x.data.toList ∈ cut 32 s.data.toList := by rw [← words_cut]; exact List.mem_map_of_mem h
  have := cut_mem h1
  rw [← Lib.size_eq, ← Lib.size_eq] at this
  exact this

def Parsed (s : ByteArray) (w : World) (e : Ending) (w' : World) : Prop :=
  (∃ (m : Nat) (ns : List Nat) (g o cap : Nat), Reads (wordsB s) (m :: ns) ∧ e = .returned (.tuple #[.agg #[.slice (some ⟨g, o, none⟩) ns.length cap, .int .i64 m], .int .i64 0]) ∧ w.heap.size ≤ g ∧ g < w'.heap.size ∧
    ∀ (j x : Nat), ns[j]? = some x → w'.cell? ⟨g, o + j, none⟩ = some (.int .i64 x)) ∨
  ((∀ ns, ¬ Reads (wordsB s) ns) ∧ e = .returned (.tuple #[.agg #[.slice none 0 0, .int .i64 0], .int .i64 50]))

set_option maxHeartbeats 1600000 in
set_option maxRecDepth 1000000 in
theorem parse_any (s : ByteArray) (hs : s.size ≤ 9000) (w : World) (hL : TextLaid w) :
    Calls Tryz.prog 11 #[.string s] w fun e w' => Below w.heap.size w w' ∧ Parsed s w e w' := by
  obtain ⟨i0, hi, hz0, hz1, hz2⟩ := info_parts info3
  go_enter Tryz.func11, Tryz.ntmps11
  go_wp2_with fail
  refine (split_calls s _ (by omega)).mono ?_
  rintro e w1 ⟨rfl, hw1⟩
  have hB1 : Below w.heap.size w w1 := by rw [hw1]; exact ((Below.refl _ _).alloc (Nat.le_refl _) _).alloc (by simp) _
  have hwords : ∀ j x, (wordsB s)[j]? = some x → w1.cell? ⟨w.heap.size + 1, j, none⟩ = some (.string x) := fun j x hj => by
    rw [hw1, show w.heap.size + 1 = (w.alloc (Obj.cells #[Value.slice none 0 0, Value.int IntKind.i64 0] 30)).heap.size by simp, World.cell?_alloc_new]
    simp [hj]
  have hr0 : w1.cell? ⟨w.heap.size, 0, none⟩ = some (.slice none 0 0) := by
    rw [hw1, World.cell?_alloc_old _ _ _ (by simp)]
    rw [World.cell?_alloc_new]; rfl
  have hr1 : w1.cell? ⟨w.heap.size, 1, none⟩ = some (.int .i64 0) := by
    rw [hw1, World.cell?_alloc_old _ _ _ (by simp)]
    rw [World.cell?_alloc_new]; rfl
  have hf0 : ∀ j, w1.frozen? ⟨w.heap.size, j, none⟩ = false := fun j => by
    rw [hw1, World.frozen?_alloc_old _ _ _ (by simp), World.frozen?_alloc_new]
  have hs1 : w1.heap.size = w.heap.size + 2 := by rw [hw1]; simp
  generalize hws : wordsB s = ws at *
  have hwl : ws.length ≤ 9001 := by rw [← hws, words_length]; have := Lib.countB_le blank (by decide) s.size s (Nat.le_refl _); omega
  go_wp2_with fail
  rw [← hw1]
  clear hw1
  go_loopw [4, 12] (fun v i wr => ∃ (k : Nat) (ns : List Nat), k ≤ ws.length ∧ i = .int .i64 k ∧ ns.length = k ∧ Reads (ws.take k) ns ∧ wr.ownsRow w1.heap.size 3 1 v k (ints ns) ∧ Below w1.heap.size w1 wr)
    (fun _ i _ => ws.length - (RowKit.intOf i).toNat)
  case atStart => exact ⟨0, [], Nat.zero_le _, rfl, rfl, ⟨by simp, rfl⟩, World.ownsRow_nil _ _ _ _, Below.refl _ _⟩
  case round =>
    obtain ⟨k, ns, hk, rfl, hnl, hrd, hown, hnx⟩ := hrel
    have hnl1 : wr.heap.size ≥ w1.heap.size := hnx.size
    by_cases hkl : k < ws.length
    · have hcell : wr.cell? ⟨w.heap.size + 1, k, none⟩ = some (.string ws[k]) := (hnx.cell (by simp [hs1])).trans (hwords k _ (by simp [hkl]))
      have hB1r : Below w.heap.size w wr := hB1.trans (hnx.mono hB1.size)
      have hsz : ws[k].size ≤ 10000 := by
        have hm : ws[k] ∈ wordsB s := by rw [hws]; exact List.getElem_mem _
        have := word_size hm; omega
      go_wp2_with fail
      refine (atoi_calls ws[k] hsz (hL.below hB1r)).mono ?_
      rintro e w2 ⟨hb2, hcase⟩
      have hB2 : Below w1.heap.size w1 w2 := hnx.trans (hb2.mono hnx.size)
      have hown2 := own_below hown hb2
      have hc0 : w2.cell? ⟨w.heap.size, 0, none⟩ = some (.slice none 0 0) := (hB2.cell (by simp [hs1])).trans hr0
      have hc1 : w2.cell? ⟨w.heap.size, 1, none⟩ = some (.int .i64 0) := (hB2.cell (by simp [hs1])).trans hr1
      have hg0 : w2.frozen? ⟨w.heap.size, 0, none⟩ = false := (hB2.frozen (by simp [hs1])).trans (hf0 0)
      have hg1 : w2.frozen? ⟨w.heap.size, 1, none⟩ = false := (hB2.frozen (by simp [hs1])).trans (hf0 1)
      clear hcell hb2
      rcases hcase with ⟨v, hv, rfl⟩ | ⟨hno, n, N, rfl⟩
      · have hfail : ∀ (_ : ¬ ∃ n : Nat, n ≤ 99999 ∧ v = n ∧ ws[k].data.toList = Lib.decDigits n), ∀ ns, ¬ Reads (wordsB s) ns := fun h ns hr => by
          rw [hws] at hr
          obtain ⟨n, h1, h2, h3⟩ := hr.ok (k := k) (x := ws[k]) (by simp [hkl])
          rw [hv] at h2
          exact h ⟨n, h1, by injection h2, h3⟩
        by_cases h1 : v < 0
        · have hno := hfail (fun ⟨n, _, e, _⟩ => by omega)
          clear hfail
          go_wp2_with fail
          refine bodyPost_ret (v := .tuple #[.agg #[.slice none 0 0, .int .i64 0], .int .i64 50]) (by rw [results_cell_tmp rfl]; go_simp) rfl ⟨?_, .inr ⟨hno, rfl⟩⟩
          exact ((hB1.trans (hB2.mono hB1.size)).setCell (Nat.le_refl _) _).setCell (Nat.le_refl _) _
        by_cases h2 : 99999 < v
        · have hno := hfail (fun ⟨n, _, e, _⟩ => by omega)
          clear hfail
          go_wp2_with fail
          refine bodyPost_ret (v := .tuple #[.agg #[.slice none 0 0, .int .i64 0], .int .i64 50]) (by rw [results_cell_tmp rfl]; go_simp) rfl ⟨?_, .inr ⟨hno, rfl⟩⟩
          exact ((hB1.trans (hB2.mono hB1.size)).setCell (Nat.le_refl _) _).setCell (Nat.le_refl _) _
        obtain ⟨n, rfl⟩ := Int.eq_ofNat_of_zero_le (Int.not_lt.1 h1)
        have hn : n ≤ 99999 := by omega
        go_wp2_with fail
        refine (itoa_calls hn (hL.below (hB1.trans (hB2.mono hB1.size)))).mono ?_
        rintro e w3 ⟨rfl, hb3⟩
        have hB3 : Below w1.heap.size w1 w3 := hB2.trans (hb3.mono hB2.size)
        have hown3 := own_below hown2 hb3
        have hd0 : w3.cell? ⟨w.heap.size, 0, none⟩ = some (.slice none 0 0) := (hB3.cell (by simp [hs1])).trans hr0
        have hd1 : w3.cell? ⟨w.heap.size, 1, none⟩ = some (.int .i64 0) := (hB3.cell (by simp [hs1])).trans hr1
        have he0 : w3.frozen? ⟨w.heap.size, 0, none⟩ = false := (hB3.frozen (by simp [hs1])).trans (hf0 0)
        have he1 : w3.frozen? ⟨w.heap.size, 1, none⟩ = false := (hB3.frozen (by simp [hs1])).trans (hf0 1)
        clear hc0 hc1 hg0 hg1 hown2 hb3
        cases hw : (Lib.decDigits n == ws[k].toList) with
        | true =>
          have hgood : ws[k].data.toList = Lib.decDigits n := by rw [← Lib.toList_data]; exact (eq_of_beq hw).symm
          clear hfail
          go_wp2_with (first
            | (at_builtin; refine wpList_append_own _ rfl _ _ 25 rfl w1.heap.size 3 i0 (.int .i64 0) 1 8 Tryz.underlying25 hi hz0 hz1 hz2 rfl (by decide) _ _ _ rfl (hown3.alloc _) ⟨w3.heap.size, 0, none⟩ 1 1 [.int .i64 (n : Int)] rfl rfl ?c1 ?c2 ?c3 ?c4 ?c5 ?_))
          case c1 =>
            intro j u hj
            match j, hj with
            | 0, hj => simp at hj; subst hj; simp [Addr.add]
          case c2 => intro u hu; simp at hu; subst hu; rfl
          case c3 => unfold maxLen; omega
          case c4 => omega
          case c5 => have := hB3.size; simp; omega
          intro v' w4 hown4 hgrow hnil
          have hB4 : Below w1.heap.size w1 w4 := (hB3.alloc hB3.size _).grown hgrow (by have := hB3.size; simp; omega) (fun j hj => by have := (hown3.lt j hj).1; omega)
          have ho : w4.ownsRow w1.heap.size 3 1 v' (k + 1) (ints (ns ++ [n])) := by rw [hs1]; simpa only [ints, List.map_append, List.map_cons, List.map_nil] using hown4
          have hrd' := hrd.snoc (x := ws[k]) (by simp [hkl]) hn hgood
          clear hown4 hgrow hown3 hown hnil hd0 hd1 he0 he1
          go_wp2
          go_roundw
          case rel => exact ⟨k + 1, ns ++ [n], by omega, by go_num, by simp [hnl], hrd', ho, hB4⟩
          case measure => simp [RowKit.intOf]; omega
        | false =>
          have hno := hfail (fun ⟨m, _, e, e2⟩ => by
            have : m = n := by omega
            subst this
            rw [Lib.toList_data, e2] at hw
            simp at hw)
          clear hfail
          go_wp2_with fail
          refine bodyPost_ret (v := .tuple #[.agg #[.slice none 0 0, .int .i64 0], .int .i64 50]) (by rw [results_cell_tmp rfl]; go_simp) rfl ⟨?_, .inr ⟨hno, rfl⟩⟩
          exact ((hB1.trans (hB3.mono hB1.size)).setCell (Nat.le_refl _) _).setCell (Nat.le_refl _) _
      · have hno' : ∀ ns, ¬ Reads (wordsB s) ns := fun ns hr => by
          rw [hws] at hr
          obtain ⟨n, h1, h2, h3⟩ := hr.ok (k := k) (x := ws[k]) (by simp [hkl])
          exact hno _ h2
        go_wp2_with fail
        refine bodyPost_ret (v := .tuple #[.agg #[.slice none 0 0, .int .i64 0], .int .i64 50]) (by rw [results_cell_tmp rfl]; go_simp) rfl ⟨?_, .inr ⟨hno', rfl⟩⟩
        exact ((hB1.trans (hB2.mono hB1.size)).setCell (Nat.le_refl _) _).setCell (Nat.le_refl _) _
    · have hke : k = ws.length := by omega
      have hw1 : 1 ≤ ws.length := by rw [← hws, words_length]; omega
      obtain ⟨g, cap, cur, rfl, hgB, hg, hkc, hcm, -, -⟩ : ∃ g cap cur, u4 = .slice (some ⟨g, 0, none⟩) k cap ∧ w1.heap.size ≤ g ∧ wr.heap[g]? = some (.cells cur 3 (0, 0)) ∧ k ≤ cap ∧ cap ≤ maxLen ∧ True ∧ True := by
        rcases hown.2 with ⟨_, h0⟩ | ⟨g, cap, cur, h1, h2, h3, h4, h5, _⟩
        · omega
        · exact ⟨g, cap, cur, h1, h2, h3, h4, h5, trivial, trivial⟩
      have hgl : g < wr.heap.size := (Array.getElem?_eq_some_iff.1 hg).1
      obtain ⟨m, ms, rfl⟩ : ∃ m ms, ns = m :: ms := by
        cases ns with
        | nil => simp at hnl; omega
        | cons m ms => exact ⟨m, ms, rfl⟩
      have hm0 : wr.cell? ⟨g, 0, none⟩ = some (.int .i64 (m : Nat)) := by
        rw [hown.cellAt 0 (by omega)]; rfl
      have hd0 : wr.cell? ⟨w.heap.size, 0, none⟩ = some (.slice none 0 0) := (hnx.cell (by simp [hs1])).trans hr0
      have hd1 : wr.cell? ⟨w.heap.size, 1, none⟩ = some (.int .i64 0) := (hnx.cell (by simp [hs1])).trans hr1
      have he0 : wr.frozen? ⟨w.heap.size, 0, none⟩ = false := (hnx.frozen (by simp [hs1])).trans (hf0 0)
      have he1 : wr.frozen? ⟨w.heap.size, 1, none⟩ = false := (hnx.frozen (by simp [hs1])).trans (hf0 1)
      have hk1 : 1 ≤ k := by omega
      go_wp2_with fail
      go_region
      all_goals (try go_wp2)
      all_goals
        have hml : ws.length - 1 = ms.length := by simp at hnl; omega
        have hrd' : Reads (wordsB s) (m :: ms) := by rw [hws]; rw [hke, List.take_length] at hrd; exact hrd
        have hgn : g ≠ w.heap.size := by omega
        have hbel : ∀ v, Below w.heap.size w ((wr.setCell ⟨w.heap.size, 0, none⟩ v).setCell ⟨w.heap.size, 1, none⟩ (.int .i64 (m : Nat))).drew := fun v => (((hB1.trans (hnx.mono hB1.size)).setCell (Nat.le_refl _) _).setCell (Nat.le_refl _) _).drew
      · have hm0 : ms = [] := List.eq_nil_of_length_eq_zero (by simp at hnl; omega)
        refine bodyPost_ret (v := .tuple #[.agg #[.slice (some ⟨g, 0, none⟩) ms.length 0, .int .i64 m], .int .i64 0]) (by rw [results_cell_tmp rfl, ← hml]; go_simp) rfl ⟨hbel _, .inl ⟨m, ms, g, 0, 0, hrd', rfl, by omega, by simpa using hgl, fun j x hj => ?_⟩⟩
        rw [hm0] at hj; simp at hj
      · refine bodyPost_ret (v := .tuple #[.agg #[.slice (some ⟨g, 1, none⟩) ms.length (cap - 1), .int .i64 m], .int .i64 0]) (by rw [results_cell_tmp rfl, ← hml]; go_simp) rfl ⟨hbel _, .inl ⟨m, ms, g, 1, cap - 1, hrd', rfl, by omega, by simpa using hgl, fun j x hj => ?_⟩⟩
        rw [World.cell?_drew, World.cell?_setCell_far _ _ _ _ (Ne.symm hgn), World.cell?_setCell_far _ _ _ _ (Ne.symm hgn), hown.cellAt (1 + j) (by have := (List.getElem?_eq_some_iff.1 hj).1; simp at hnl; omega)]
        rw [Nat.add_comm 1 j]
        simp [ints, hj]
end Go.Proofs.YtcedalofcekdkaaGreatDoor
