/- proof.Text and Same, walked. -/
import Derived.Test.YtcedalofcekdkaaGreatDoorProg
import Derived.WalkKit
import Derived.Below
import Derived.Deep.QuietTactic
import Derived.Test.YtcedalofcekdkaaGreatDoorTextP
import Derived.Deep.DeepFit
set_option linter.unusedSimpArgs false
set_option linter.unusedVariables false
section
namespace Go.Proofs.YtcedalofcekdkaaGreatDoor
open Go.RowKit

def IntsAt (w : World) (a : Option Addr) (xs : List Int) : Prop :=
  xs = [] ∨ ∃ b o, a = some ⟨b, o, none⟩ ∧ b < w.heap.size ∧ ∀ (j : Nat) (x : Int), xs[j]? = some x → w.cell? ⟨b, o + j, none⟩ = some (.int .i64 x)

theorem IntsAt.below {w w' : World} {a : Option Addr} {xs : List Int} (h : IntsAt w a xs) (hB : Below w.heap.size w w') : IntsAt w' a xs := by
  rcases h with h | ⟨b, o, h1, h2, h3⟩
  · exact .inl h
  · exact .inr ⟨b, o, h1, Nat.lt_of_lt_of_le h2 hB.size, fun j x hj => (hB.cell (p := ⟨b, o + j, none⟩) h2).trans (h3 j x hj)⟩

theorem take_same {xs ys : List Int} {k : Nat} (hl : xs.length = ys.length) (hk : k = xs.length) (h : xs.take k = ys.take k) : xs = ys := by
  rw [hk, List.take_length, hl, List.take_length] at h
  exact h

set_option maxHeartbeats 1600000 in
set_option maxRecDepth 1000000 in
theorem ints_calls (xs ys : List Int) (a a2 : Option Addr) (c c2 : Nat) (w : World) (hx : IntsAt w a xs) (hy : IntsAt w a2 ys) (hlen : xs.length ≤ 1000000) :
    Calls Tryz.prog 18 #[.slice a xs.length c, .slice a2 ys.length c2] w fun e w' => e = .returned (.bool (decide (xs = ys))) ∧ Below w.heap.size w w' := by
  go_enter Tryz.func18, Tryz.ntmps18
  by_cases hl : xs.length = ys.length
  · rw [← hl]
    go_wp2
    go_loopw [5] (fun i wr => ∃ k : Nat, k ≤ xs.length ∧ i = .int .i64 k ∧ xs.take k = ys.take k ∧ Below w.heap.size w wr)
      (fun i _ => xs.length - (RowKit.intOf i).toNat)
    case atStart => exact ⟨0, Nat.zero_le _, rfl, by simp, Below.refl _ _⟩
    case round =>
      obtain ⟨k, hk, rfl, htk, hnx⟩ := hrel
      by_cases hkl : k < xs.length
      · obtain ⟨b, o, rfl, hb, hcx⟩ : ∃ b o, a = some ⟨b, o, none⟩ ∧ b < w.heap.size ∧ ∀ (j : Nat) (x : Int), xs[j]? = some x → w.cell? ⟨b, o + j, none⟩ = some (.int .i64 x) := by
          rcases hx with h | h
          · subst h; simp at hkl
          · exact h
        obtain ⟨b2, o2, rfl, hb2, hcy⟩ : ∃ b o, a2 = some ⟨b, o, none⟩ ∧ b < w.heap.size ∧ ∀ (j : Nat) (x : Int), ys[j]? = some x → w.cell? ⟨b, o + j, none⟩ = some (.int .i64 x) := by
          rcases hy with h | h
          · have : ys.length = 0 := by rw [h]; rfl
            omega
          · exact h
        obtain ⟨x, hxk⟩ : ∃ x, xs[k]? = some x := ⟨xs[k], by simp [hkl]⟩
        obtain ⟨y, hyk⟩ : ∃ y, ys[k]? = some y := ⟨ys[k], by simp [hl ▸ hkl]⟩
        have h1 : wr.cell? ⟨b, o + k, none⟩ = some (.int .i64 x) := (hnx.cell (p := ⟨b, o + k, none⟩) hb).trans (hcx k x hxk)
        have h2 : wr.cell? ⟨b2, o2 + k, none⟩ = some (.int .i64 y) := (hnx.cell (p := ⟨b2, o2 + k, none⟩) hb2).trans (hcy k y hyk)
        have hlt2 : k < ys.length := by omega
        by_cases hxy : x = y
        · subst hxy
          have htk' : xs.take (k + 1) = ys.take (k + 1) := by rw [List.take_add_one, List.take_add_one, hxk, hyk, htk]
          clear hcx hcy hx hy
          go_wp2_with fail
          go_region
          all_goals (try go_wp2)
          go_roundw
          case rel => exact ⟨k + 1, by omega, by go_num, htk', hnx.drew⟩
          case measure => simp [RowKit.intOf]; omega
        · have hne : xs ≠ ys := fun e => by subst e; rw [hxk] at hyk; exact hxy (Option.some.inj hyk)
          clear hcx hcy hx hy
          go_wp2_with fail
          go_region
          all_goals (try go_wp2)
          go_ret
          exact ⟨by rw [decide_eq_false hne]; rfl, hnx.drew⟩
      · have he := take_same hl (by omega) htk
        go_wp2
        go_ret
        exact ⟨by rw [decide_eq_true he]; rfl, hnx⟩
  · have hne : xs ≠ ys := fun e => hl (by rw [e])
    have hz : ¬ ((xs.length : Int) = (ys.length : Int)) := by omega
    go_wp2
    go_ret
    exact ⟨by rw [decide_eq_false hne]; rfl, Below.refl _ _⟩
end Go.Proofs.YtcedalofcekdkaaGreatDoor
end

section
namespace Go.Proofs.YtcedalofcekdkaaGreatDoor
open Go.RowKit Go.Lib

theorem info9 : (Tryz.prog.info? 9).map (fun i => (i.zero, i.size, i.bytes)) = some (some (.string ByteArray.empty), 1, 16) := by kernel_rfl

abbrev numeral (n : Nat) : ByteArray := ⟨(Lib.decDigits n).toArray⟩
abbrev strs (l : List Nat) : List Value := l.map fun n => .string (numeral n)

def IntRow (w : World) (b o : Nat) (ns : List Nat) : Prop := ∀ (j x : Nat), ns[j]? = some x → w.cell? ⟨b, o + j, none⟩ = some (.int .i64 x)

theorem IntRow.below {w w' : World} {b o : Nat} {ns : List Nat} (h : IntRow w b o ns) (hb : b < w.heap.size) (hB : Below w.heap.size w w') : IntRow w' b o ns :=
  fun j x hj => (hB.cell (p := ⟨b, o + j, none⟩) hb).trans (h j x hj)

theorem numerals (l : List Nat) : (l.map numeral).map (·.data.toList) = l.map Lib.decDigits := by
  rw [List.map_map]; rfl

set_option maxHeartbeats 1600000 in
set_option maxRecDepth 1000000 in
theorem text_any (m : Nat) (ns : List Nat) (b o cap : Nat) (w : World) (hb : b < w.heap.size) (hr : IntRow w b o ns) (hlen : ns.length ≤ 10000) (hok : ∀ n ∈ m :: ns, n ≤ 99999) (hL : TextLaid w) :
    Calls Tryz.prog 12 #[.agg #[.slice (some ⟨b, o, none⟩) ns.length cap, .int .i64 m]] w fun e w' => e = .returned (.string ⟨(textOf (m :: ns)).toArray⟩) ∧ Below w.heap.size w w' := by
  obtain ⟨i0, hi, hz0, hz1, hz2⟩ := info_parts info3
  obtain ⟨i9, hi9, hy0, hy1, hy2⟩ := info_parts info9
  have own1 : ∀ A, ((w.alloc A).alloc (.cells #[.int .i64 (m : Int)] 3)).ownsRow w.heap.size 3 1 (.slice (some ⟨w.heap.size + 1, 0, none⟩) 1 1) 1 [.int .i64 (m : Int)] := fun A =>
    ⟨rfl, .inr ⟨w.heap.size + 1, 1, #[.int .i64 (m : Int)], rfl, by omega, by
      have := heap_alloc_new (w.alloc A) (.cells #[.int .i64 (m : Int)] 3)
      rwa [show (w.alloc A).heap.size = w.heap.size + 1 by simp] at this, by decide, by decide, rfl, rfl⟩⟩
  have bel1 : ∀ A O, Below w.heap.size w ((w.alloc A).alloc O) := fun A O => ((Below.refl _ _).alloc (Nat.le_refl _) _).alloc (by simp) _
  go_enter Tryz.func12, Tryz.ntmps12
  go_wp2_with (first
    | (at_builtin; refine wpList_append_own _ rfl _ _ 25 rfl w.heap.size 3 i0 (.int .i64 0) 1 8 Tryz.underlying25 hi hz0 hz1 hz2 rfl (by decide) _ _ _ rfl (own1 _) ⟨b, o, none⟩ ns.length cap (ints ns) rfl ?c1 ?c2 ?c3 ?c4 ?c5 ?c6 ?_))
  case c1 => simp [ints]
  case c2 =>
    intro j u hj
    simp only [ints, List.getElem?_map] at hj
    cases hn : ns[j]? with
    | none => rw [hn] at hj; cases hj
    | some x =>
      rw [hn] at hj
      have e : u = .int .i64 (x : Nat) := by simpa using hj.symm
      subst e
      refine Eq.trans ?_ (IntRow.below hr hb (bel1 (Obj.cells #[.slice (some ⟨b, o, none⟩) ns.length cap, .int .i64 (m : Int)] 30) (Obj.cells #[.int .i64 (m : Int)] 3)) j x hn)
      first | rfl | (congr 1; simp [Addr.add])
  case c3 => intro u hu; simp only [ints, List.mem_map] at hu; obtain ⟨_, _, rfl⟩ := hu; rfl
  case c4 => unfold maxLen; omega
  case c5 => omega
  case c6 => simp; omega
  intro v1 w1 ho1 hg1 hne1
  have hB1 : Below w.heap.size w w1 := (bel1 _ _).grown hg1 (by simp; omega) (fun j hj => by simp [Value.ownBlock] at hj; omega)
  obtain ⟨g, c, rfl, hgB, hgl⟩ := own_form ho1 hne1
  have ho1 : w1.ownsRow w.heap.size 3 1 (.slice (some ⟨g, 0, none⟩) (1 + ns.length) c) (1 + ns.length) (ints (m :: ns)) := by simpa only [ints, List.map_cons, List.singleton_append] using ho1
  clear hg1 hne1 own1 bel1
  generalize hl : m :: ns = l at *
  have hll : l.length = 1 + ns.length := by rw [← hl]; simp; omega
  go_wp2_with fail
  go_loopw [3, 13] (fun v i wr => ∃ k : Nat, k ≤ l.length ∧ i = .int .i64 k ∧ wr.ownsRow w1.heap.size 9 1 v k (strs (l.take k)) ∧ Below w1.heap.size w1 wr)
    (fun _ i _ => l.length - (RowKit.intOf i).toNat)
  case atStart => exact ⟨0, Nat.zero_le _, rfl, World.ownsRow_nil _ _ _ _, Below.refl _ _⟩
  case round =>
    obtain ⟨k, hk, rfl, hown, hnx⟩ := hrel
    have hnl1 : wr.heap.size ≥ w1.heap.size := hnx.size
    by_cases hkl : k < l.length
    · obtain ⟨n, hn⟩ : ∃ n, l[k]? = some n := ⟨l[k], by simp [hkl]⟩
      have hn9 : n ≤ 99999 := hok n (List.mem_of_getElem? hn)
      have hcell : wr.cell? ⟨g, k, none⟩ = some (.int .i64 (n : Nat)) := by
        rw [hnx.cell (p := ⟨g, k, none⟩) hgl, ho1.cellAt k (by omega)]
        simp [ints, hn]
      have hlt : (k : Int) < 1 + (ns.length : Int) := by omega
      have hn0 : ¬ ((n : Int) < 0) := by omega
      have hn1 : ¬ (99999 < (n : Int)) := by omega
      go_wp2_with fail
      refine (itoa_calls hn9 (hL.below (hB1.trans (hnx.mono hB1.size)))).mono ?_
      rintro e w2 ⟨rfl, hb2⟩
      have hB2 : Below w1.heap.size w1 w2 := hnx.trans (hb2.mono hnx.size)
      have hown2 := own_below hown hb2
      clear hcell hb2 hown
      go_wp2_with (first
        | (at_builtin; refine wpList_append_own _ rfl _ _ 86 rfl w1.heap.size 9 i9 (.string ByteArray.empty) 1 16 Tryz.underlying86 hi9 hy0 hy1 hy2 rfl (by decide) _ _ _ rfl (hown2.alloc _) ⟨w2.heap.size, 0, none⟩ 1 1 [.string (numeral n)] rfl rfl ?c1 ?c2 ?c3 ?c4 ?c5 ?_))
      case c1 =>
        intro j u hj
        match j, hj with
        | 0, hj => simp at hj; subst hj; simp [Addr.add]
      case c2 => intro u hu; simp at hu; subst hu; rfl
      case c3 => unfold maxLen; omega
      case c4 => omega
      case c5 => have := hB2.size; simp; omega
      intro v' w4 hown4 hgrow hnil
      have hB4 : Below w1.heap.size w1 w4 := (hB2.alloc hB2.size _).grown hgrow (by have := hB2.size; simp; omega) (fun j hj => by have := (hown2.lt j hj).1; omega)
      have ho : w4.ownsRow w1.heap.size 9 1 v' (k + 1) (strs (l.take (k + 1))) := by
        rw [List.take_add_one, hn]
        have e : strs (l.take k ++ (some n).toList) = strs (l.take k) ++ [.string (numeral n)] := by simp only [strs, Option.toList_some, List.map_append, List.map_cons, List.map_nil]
        rw [e]; simpa only [strs, List.map_take] using hown4
      clear hown4 hgrow hown2 hnil
      go_wp2
      go_roundw
      case rel => exact ⟨k + 1, by omega, by go_num, ho, hB4⟩
      case measure => simp [RowKit.intOf]; omega
    · have hke : k = l.length := by omega
      subst hke
      have hge : ¬ ((l.length : Int) < 1 + (ns.length : Int)) := by omega
      rw [List.take_length] at hown
      obtain ⟨g2, c2, cur, rfl, hgB2, hg2, hkc, -⟩ : ∃ g cap cur, u3 = .slice (some ⟨g, 0, none⟩) l.length cap ∧ w1.heap.size ≤ g ∧ wr.heap[g]? = some (.cells cur 9 (0, 0)) ∧ l.length ≤ cap ∧ True := by
        rcases hown.2 with ⟨_, h0⟩ | ⟨g, cap, cur, h1, h2, h3, h4, _⟩
        · omega
        · exact ⟨g, cap, cur, h1, h2, h3, h4, trivial⟩
      have hgl2 : g2 < wr.heap.size := (Array.getElem?_eq_some_iff.1 hg2).1
      have hjoin := joinAt g2 0 c2 (l.map numeral) blank wr (fun j x hj => by
          rw [Nat.zero_add]
          have : j < l.length := by have := (List.getElem?_eq_some_iff.1 hj).1; simpa using this
          rw [hown.cellAt j (by omega)]
          simp only [List.getElem?_map] at hj ⊢
          cases hx : l[j]? with
          | none => rw [hx] at hj; cases hj
          | some y => rw [hx] at hj; simp at hj; subst hj; simp) hgl2 (by simp; omega) (by simpa using hkc) (by
          have := text_length hok
          rw [numerals]
          show (textOf l).length ≤ _
          omega)
      rw [numerals, List.length_map, hll] at hjoin
      go_wp2_with fail
      refine hjoin.mono ?_
      rintro e w5 ⟨rfl, hb5⟩
      go_wp2
      go_ret
      refine ⟨?_, (hB1.trans (hnx.mono hB1.size)).trans (hb5.mono (Nat.le_trans hB1.size hnx.size))⟩
      rw [hl]; rfl

theorem IntRow.at {w : World} {b o : Nat} {ns : List Nat} (h : IntRow w b o ns) (hb : b < w.heap.size) : IntsAt w (some ⟨b, o, none⟩) (ns.map fun n : Nat => (n : Int)) := by
  refine .inr ⟨b, o, rfl, hb, fun j x hj => ?_⟩
  rw [List.getElem?_map] at hj
  cases hn : ns[j]? with
  | none => rw [hn] at hj; cases hj
  | some n =>
    rw [hn] at hj
    have e : x = (n : Int) := by simpa using hj.symm
    rw [e]; exact h j n hn

set_option maxHeartbeats 1600000 in
set_option maxRecDepth 1000000 in

theorem same_any (m : Nat) (ns : List Nat) (b o cap b2 o2 cap2 : Nat) (w : World) (hb : b < w.heap.size) (hb2 : b2 < w.heap.size) (hr : IntRow w b o ns) (hr2 : IntRow w b2 o2 ns) (hlen : ns.length ≤ 10000) :
    Calls Tryz.prog 13 #[.agg #[.slice (some ⟨b, o, none⟩) ns.length cap, .int .i64 m], .agg #[.slice (some ⟨b2, o2, none⟩) ns.length cap2, .int .i64 m]] w fun e w' => e = .returned (.bool true) ∧ Below w.heap.size w w' := by
  have bel : ∀ A O, Below w.heap.size w ((w.alloc A).alloc O) := fun A O => ((Below.refl _ _).alloc (Nat.le_refl _) _).alloc (by simp) _
  have hc := fun A O => ints_calls (ns.map fun n : Nat => (n : Int)) (ns.map fun n : Nat => (n : Int)) (some ⟨b, o, none⟩) (some ⟨b2, o2, none⟩) cap cap2 ((w.alloc A).alloc O) ((hr.at hb).below (bel A O)) ((hr2.at hb2).below (bel A O)) (by simp; omega)
  simp only [List.length_map] at hc
  go_enter Tryz.func13, Tryz.ntmps13
  go_wp2_with fail
  go_fit (hc _ _)
  rintro e w1 ⟨rfl, hb1⟩
  go_wp2
  go_ret
  exact ⟨by simp, (bel _ _).trans (hb1.mono (bel _ _).size)⟩
end Go.Proofs.YtcedalofcekdkaaGreatDoor
end
