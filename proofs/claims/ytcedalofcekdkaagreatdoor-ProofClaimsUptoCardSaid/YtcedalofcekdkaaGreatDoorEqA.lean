/- Lists of numbers, rows and signals compared. -/
import Derived.Test.YtcedalofcekdkaaGreatDoorMemA
import Derived.Deep.DeepFit
import Derived.Deep.RegionWith
set_option linter.unusedSimpArgs false
set_option linter.unusedVariables false
section
namespace Go.Proofs.YtcedalofcekdkaaGreatDoor
open Go.RowKit

def Drawn (w w' : World) : Prop := ∃ m, w' = w.drewN m
theorem Drawn.refl (w : World) : Drawn w w := ⟨0, rfl⟩
theorem Drawn.drew {w w' : World} (h : Drawn w w') : Drawn w w'.drew := by obtain ⟨m, rfl⟩ := h; exact ⟨m + 1, rfl⟩
theorem Drawn.trans {w w' w'' : World} (h : Drawn w w') (k : Drawn w' w'') : Drawn w w'' := by
  obtain ⟨m, rfl⟩ := h; obtain ⟨n, rfl⟩ := k; exact ⟨m + n, World.drewN_drewN _ _ _⟩
theorem Drawn.below {w w' : World} (h : Drawn w w') : Below w.heap.size w w' := by obtain ⟨m, rfl⟩ := h; exact ⟨rfl, rfl, rfl, Nat.le_refl _, fun _ _ => rfl⟩

set_option maxHeartbeats 1600000 in
set_option maxRecDepth 1000000 in
theorem ints_quiet18 (xs ys : List Int) (a a2 : Option Addr) (c c2 : Nat) (w : World) (hx : IntsAt w a xs) (hy : IntsAt w a2 ys) (hlen : xs.length ≤ 1000000) :
    Calls Tryz.prog 18 #[.slice a xs.length c, .slice a2 ys.length c2] w fun e w' => e = .returned (.bool (decide (xs = ys))) ∧ Drawn w w' := by
  go_enter Tryz.func18, Tryz.ntmps18
  by_cases hl : xs.length = ys.length
  · rw [← hl]
    go_wp2
    go_loopw [5] (fun i wr => ∃ k : Nat, k ≤ xs.length ∧ i = .int .i64 k ∧ xs.take k = ys.take k ∧ Drawn w wr)
      (fun i _ => xs.length - (RowKit.intOf i).toNat)
    case atStart => exact ⟨0, Nat.zero_le _, rfl, by simp, Drawn.refl _⟩
    case round =>
      obtain ⟨k, hk, rfl, htk, hdr⟩ := hrel
      have hnx := hdr.below
      by_cases hkl : k < xs.length
      · obtain ⟨b, o, rfl, hb, hcx⟩ : ∃ b o, a = some ⟨b, o, none⟩ ∧ b < w.heap.size ∧ ∀ (j : Nat) (x : Int), xs[j]? = some x → w.cell? ⟨b, o + j, none⟩ = some (.int .i64 x) := by
          rcases hx with h | h
          · subst h; simp at hkl
          · exact h
        obtain ⟨b2, o2, rfl, hb2, hcy⟩ : ∃ b o, a2 = some ⟨b, o, none⟩ ∧ b < w.heap.size ∧ ∀ (j : Nat) (x : Int), ys[j]? = some x → w.cell? ⟨b, o + j, none⟩ = some (.int .i64 x) := by
          rcases hy with h | h
          · have : ys.length = 0 := by rw [h]; rfl
            omega
          · exact h
        obtain ⟨x, hxk⟩ : ∃ x, xs[k]? = some x := ⟨xs[k], by simp [hkl]⟩
        obtain ⟨y, hyk⟩ : ∃ y, ys[k]? = some y := ⟨ys[k], by simp [hl ▸ hkl]⟩
        have h1 : wr.cell? ⟨b, o + k, none⟩ = some (.int .i64 x) := (hnx.cell (p := ⟨b, o + k, none⟩) hb).trans (hcx k x hxk)
        have h2 : wr.cell? ⟨b2, o2 + k, none⟩ = some (.int .i64 y) := (hnx.cell (p := ⟨b2, o2 + k, none⟩) hb2).trans (hcy k y hyk)
        have hlt2 : k < ys.length := by omega
        by_cases hxy : x = y
        · subst hxy
          have htk' : xs.take (k + 1) = ys.take (k + 1) := by rw [List.take_add_one, List.take_add_one, hxk, hyk, htk]
          clear hcx hcy hx hy
          go_wp2_with fail
          go_region
          all_goals (try go_wp2)
          go_roundw
          case rel => exact ⟨k + 1, by omega, by go_num, htk', hdr.drew⟩
          case measure => simp [RowKit.intOf]; omega
        · have hne : xs ≠ ys := fun e => by subst e; rw [hxk] at hyk; exact hxy (Option.some.inj hyk)
          clear hcx hcy hx hy
          go_wp2_with fail
          go_region
          all_goals (try go_wp2)
          go_ret
          exact ⟨by rw [decide_eq_false hne]; rfl, hdr.drew⟩
      · have he := take_same hl (by omega) htk
        go_wp2
        go_ret
        exact ⟨by rw [decide_eq_true he]; rfl, hdr⟩
  · have hne : xs ≠ ys := fun e => hl (by rw [e])
    have hz : ¬ ((xs.length : Int) = (ys.length : Int)) := by omega
    go_wp2
    go_ret
    exact ⟨by rw [decide_eq_false hne]; rfl, Drawn.refl _⟩

set_option maxHeartbeats 1600000 in
set_option maxRecDepth 1000000 in
theorem ints_quiet75 (xs ys : List Int) (a a2 : Option Addr) (c c2 : Nat) (w : World) (hx : IntsAt w a xs) (hy : IntsAt w a2 ys) (hlen : xs.length ≤ 1000000) :
    Calls Tryz.prog 75 #[.slice a xs.length c, .slice a2 ys.length c2] w fun e w' => e = .returned (.bool (decide (xs = ys))) ∧ Drawn w w' := by
  go_enter Tryz.func75, Tryz.ntmps75
  by_cases hl : xs.length = ys.length
  · rw [← hl]
    go_wp2
    go_loopw [5] (fun i wr => ∃ k : Nat, k ≤ xs.length ∧ i = .int .i64 k ∧ xs.take k = ys.take k ∧ Drawn w wr)
      (fun i _ => xs.length - (RowKit.intOf i).toNat)
    case atStart => exact ⟨0, Nat.zero_le _, rfl, by simp, Drawn.refl _⟩
    case round =>
      obtain ⟨k, hk, rfl, htk, hdr⟩ := hrel
      have hnx := hdr.below
      by_cases hkl : k < xs.length
      · obtain ⟨b, o, rfl, hb, hcx⟩ : ∃ b o, a = some ⟨b, o, none⟩ ∧ b < w.heap.size ∧ ∀ (j : Nat) (x : Int), xs[j]? = some x → w.cell? ⟨b, o + j, none⟩ = some (.int .i64 x) := by
          rcases hx with h | h
          · subst h; simp at hkl
          · exact h
        obtain ⟨b2, o2, rfl, hb2, hcy⟩ : ∃ b o, a2 = some ⟨b, o, none⟩ ∧ b < w.heap.size ∧ ∀ (j : Nat) (x : Int), ys[j]? = some x → w.cell? ⟨b, o + j, none⟩ = some (.int .i64 x) := by
          rcases hy with h | h
          · have : ys.length = 0 := by rw [h]; rfl
            omega
          · exact h
        obtain ⟨x, hxk⟩ : ∃ x, xs[k]? = some x := ⟨xs[k], by simp [hkl]⟩
        obtain ⟨y, hyk⟩ : ∃ y, ys[k]? = some y := ⟨ys[k], by simp [hl ▸ hkl]⟩
        have h1 : wr.cell? ⟨b, o + k, none⟩ = some (.int .i64 x) := (hnx.cell (p := ⟨b, o + k, none⟩) hb).trans (hcx k x hxk)
        have h2 : wr.cell? ⟨b2, o2 + k, none⟩ = some (.int .i64 y) := (hnx.cell (p := ⟨b2, o2 + k, none⟩) hb2).trans (hcy k y hyk)
        have hlt2 : k < ys.length := by omega
        by_cases hxy : x = y
        · subst hxy
          have htk' : xs.take (k + 1) = ys.take (k + 1) := by rw [List.take_add_one, List.take_add_one, hxk, hyk, htk]
          clear hcx hcy hx hy
          go_wp2_with fail
          go_region
          all_goals (try go_wp2)
          go_roundw
          case rel => exact ⟨k + 1, by omega, by go_num, htk', hdr.drew⟩
          case measure => simp [RowKit.intOf]; omega
        · have hne : xs ≠ ys := fun e => by subst e; rw [hxk] at hyk; exact hxy (Option.some.inj hyk)
          clear hcx hcy hx hy
          go_wp2_with fail
          go_region
          all_goals (try go_wp2)
          go_ret
          exact ⟨by rw [decide_eq_false hne]; rfl, hdr.drew⟩
      · have he := take_same hl (by omega) htk
        go_wp2
        go_ret
        exact ⟨by rw [decide_eq_true he]; rfl, hdr⟩
  · have hne : xs ≠ ys := fun e => hl (by rw [e])
    have hz : ¬ ((xs.length : Int) = (ys.length : Int)) := by omega
    go_wp2
    go_ret
    exact ⟨by rw [decide_eq_false hne]; rfl, Drawn.refl _⟩

theorem take_same' {α : Type} {xs ys : List α} {k : Nat} (hl : xs.length = ys.length) (hk : k = xs.length) (h : xs.take k = ys.take k) : xs = ys := by
  rw [hk, List.take_length, hl, List.take_length] at h
  exact h

set_option maxHeartbeats 1600000 in
set_option maxRecDepth 1000000 in
theorem rows_quiet74 (xs ys : List (List Int)) (v v2 : Value) (w : World) (hx : RowsV w v xs) (hy : RowsV w v2 ys) (hlen : xs.length ≤ 1000000) (hbig : ∀ r ∈ xs, r.length ≤ 1000000) :
    Calls Tryz.prog 74 #[v, v2] w fun e w' => e = .returned (.bool (decide (xs = ys))) ∧ Drawn w w' := by
  obtain ⟨a, c, rfl, ha⟩ := hx
  obtain ⟨a2, c2, rfl, ha2⟩ := hy
  go_enter Tryz.func74, Tryz.ntmps74
  by_cases hl : xs.length = ys.length
  · rw [hl]
    go_wp2
    go_loopw [5] (fun i wr => ∃ k : Nat, k ≤ ys.length ∧ i = .int .i64 k ∧ xs.take k = ys.take k ∧ Drawn w wr)
      (fun i _ => ys.length - (RowKit.intOf i).toNat)
    case atStart => exact ⟨0, Nat.zero_le _, rfl, by simp, Drawn.refl _⟩
    case round =>
      obtain ⟨k, hk, rfl, htk, hdr⟩ := hrel
      have hnx := hdr.below
      by_cases hkl : k < ys.length
      · have hlt2 : k < xs.length := by omega
        obtain ⟨b, o, x, rfl, hb, hxk, hc⟩ := ha.get hlt2
        obtain ⟨b2, o2, y, rfl, hb2, hyk, hc2⟩ := ha2.get hkl
        rw [Nat.mul_one] at hc hc2
        obtain ⟨u, d1, a3, c3, rfl, -, hu⟩ := hc
        obtain ⟨u2, d2, a4, c4, rfl, -, hu2⟩ := hc2
        have h1 := (hnx.cell (p := ⟨b, o + k, none⟩) hb).trans d1
        have h2 := (hnx.cell (p := ⟨b2, o2 + k, none⟩) hb2).trans d2
        have hcall := ints_quiet75 x y a3 a4 c3 c4 wr.drew (hu.below hdr.drew.below) (hu2.below hdr.drew.below) (hbig x (List.mem_of_getElem? hxk))
        clear d1 d2 ha ha2 hu hu2
        by_cases hxy : x = y
        · have htk' : xs.take (k + 1) = ys.take (k + 1) := by rw [List.take_add_one, List.take_add_one, hxk, hyk, htk, hxy]
          rw [decide_eq_true hxy] at hcall
          subst hxy
          go_wp2_with fail
          go_region_with (go_at_call 75; go_fit hcall; rintro e w2 ⟨rfl, hd2⟩)
          all_goals (try go_wp2)
          all_goals exact ⟨⟨k + 1, by omega, by simp, htk', (hdr.drew).trans hd2⟩, by simp [RowKit.intOf]; omega⟩
        · have hne : xs ≠ ys := fun e => by subst e; rw [hxk] at hyk; exact hxy (Option.some.inj hyk)
          rw [decide_eq_false hxy] at hcall
          go_wp2_with fail
          go_region_with (go_at_call 75; go_fit hcall; rintro e w2 ⟨rfl, hd2⟩)
          all_goals (try go_wp2)
          all_goals go_ret
          all_goals exact ⟨by rw [decide_eq_false hne]; rfl, (hdr.drew).trans hd2⟩
      · have he := take_same' hl (by omega) htk
        go_wp2
        go_ret
        exact ⟨by rw [decide_eq_true he]; rfl, hdr⟩
  · have hne : xs ≠ ys := fun e => hl (by rw [e])
    have hz : ¬ ((xs.length : Int) = (ys.length : Int)) := by omega
    go_wp2
    go_ret
    exact ⟨by rw [decide_eq_false hne]; rfl, Drawn.refl _⟩

set_option maxHeartbeats 1600000 in
set_option maxRecDepth 1000000 in
theorem rows_quiet27 (xs ys : List (List Int)) (v v2 : Value) (w : World) (hx : RowsV w v xs) (hy : RowsV w v2 ys) (hlen : xs.length ≤ 1000000) (hbig : ∀ r ∈ xs, r.length ≤ 1000000) :
    Calls Tryz.prog 27 #[v, v2] w fun e w' => e = .returned (.bool (decide (xs = ys))) ∧ Drawn w w' := by
  obtain ⟨a, c, rfl, ha⟩ := hx
  obtain ⟨a2, c2, rfl, ha2⟩ := hy
  go_enter Tryz.func27, Tryz.ntmps27
  by_cases hl : xs.length = ys.length
  · rw [hl]
    go_wp2
    go_loopw [5] (fun i wr => ∃ k : Nat, k ≤ ys.length ∧ i = .int .i64 k ∧ xs.take k = ys.take k ∧ Drawn w wr)
      (fun i _ => ys.length - (RowKit.intOf i).toNat)
    case atStart => exact ⟨0, Nat.zero_le _, rfl, by simp, Drawn.refl _⟩
    case round =>
      obtain ⟨k, hk, rfl, htk, hdr⟩ := hrel
      have hnx := hdr.below
      by_cases hkl : k < ys.length
      · have hlt2 : k < xs.length := by omega
        obtain ⟨b, o, x, rfl, hb, hxk, hc⟩ := ha.get hlt2
        obtain ⟨b2, o2, y, rfl, hb2, hyk, hc2⟩ := ha2.get hkl
        rw [Nat.mul_one] at hc hc2
        obtain ⟨u, d1, a3, c3, rfl, -, hu⟩ := hc
        obtain ⟨u2, d2, a4, c4, rfl, -, hu2⟩ := hc2
        have h1 := (hnx.cell (p := ⟨b, o + k, none⟩) hb).trans d1
        have h2 := (hnx.cell (p := ⟨b2, o2 + k, none⟩) hb2).trans d2
        have hcall := ints_quiet18 x y a3 a4 c3 c4 wr.drew (hu.below hdr.drew.below) (hu2.below hdr.drew.below) (hbig x (List.mem_of_getElem? hxk))
        clear d1 d2 ha ha2 hu hu2
        by_cases hxy : x = y
        · have htk' : xs.take (k + 1) = ys.take (k + 1) := by rw [List.take_add_one, List.take_add_one, hxk, hyk, htk, hxy]
          rw [decide_eq_true hxy] at hcall
          subst hxy
          go_wp2_with fail
          go_region_with (go_at_call 18; go_fit hcall; rintro e w2 ⟨rfl, hd2⟩)
          all_goals (try go_wp2)
          all_goals exact ⟨⟨k + 1, by omega, by simp, htk', (hdr.drew).trans hd2⟩, by simp [RowKit.intOf]; omega⟩
        · have hne : xs ≠ ys := fun e => by subst e; rw [hxk] at hyk; exact hxy (Option.some.inj hyk)
          rw [decide_eq_false hxy] at hcall
          go_wp2_with fail
          go_region_with (go_at_call 18; go_fit hcall; rintro e w2 ⟨rfl, hd2⟩)
          all_goals (try go_wp2)
          all_goals go_ret
          all_goals exact ⟨by rw [decide_eq_false hne]; rfl, (hdr.drew).trans hd2⟩
      · have he := take_same' hl (by omega) htk
        go_wp2
        go_ret
        exact ⟨by rw [decide_eq_true he]; rfl, hdr⟩
  · have hne : xs ≠ ys := fun e => hl (by rw [e])
    have hz : ¬ ((xs.length : Int) = (ys.length : Int)) := by omega
    go_wp2
    go_ret
    exact ⟨by rw [decide_eq_false hne]; rfl, Drawn.refl _⟩

end Go.Proofs.YtcedalofcekdkaaGreatDoor
end

section
namespace Go.Proofs.YtcedalofcekdkaaGreatDoor
open Go.RowKit

theorem bytes_ext {a b : ByteArray} (h : a.toList = b.toList) : a = b := by
  rw [ByteArray.toList_eq, ByteArray.toList_eq] at h
  cases a; cases b
  simp only at h
  rw [Array.toList_inj.1 h]

def Tells (e : Ending) (p : Prop) : Prop := ∃ b : Bool, e = .returned (.bool b) ∧ (b = true ↔ p)
theorem tells_yes {p : Prop} (h : p) : Tells (.returned (.bool true)) p := ⟨true, rfl, fun _ => h, fun _ => rfl⟩
theorem tells_no {p : Prop} (h : ¬ p) : Tells (.returned (.bool false)) p := ⟨false, rfl, ⟨fun e => absurd e (by decide), fun e => absurd e h⟩⟩

set_option maxHeartbeats 1600000 in
set_option maxRecDepth 1000000 in
theorem sigs_tell (xs ys : List Sig) (v v2 : Value) (w : World) (hx : SigsV w v xs) (hy : SigsV w v2 ys) (hlen : xs.length ≤ 10000000000) :
    Calls Tryz.prog 21 #[v, v2] w fun e w' => Tells e (xs = ys) ∧ Drawn w w' := by
  obtain ⟨a, c, rfl, ha⟩ := hx
  obtain ⟨a2, c2, rfl, ha2⟩ := hy
  go_enter Tryz.func21, Tryz.ntmps21
  by_cases hl : xs.length = ys.length
  · rw [hl]
    go_wp2
    go_loopw [5] (fun i wr => ∃ k : Nat, k ≤ ys.length ∧ i = .int .i64 k ∧ xs.take k = ys.take k ∧ Drawn w wr)
      (fun i _ => ys.length - (RowKit.intOf i).toNat)
    case atStart => exact ⟨0, Nat.zero_le _, rfl, by simp, Drawn.refl _⟩
    case round =>
      obtain ⟨k, hk, rfl, htk, hdr⟩ := hrel
      have hnx := hdr.below
      by_cases hkl : k < ys.length
      · have hlt2 : k < xs.length := by omega
        obtain ⟨b, o, x, rfl, hb, hxk, d0, d1, d2⟩ := ha.get hlt2
        obtain ⟨b2, o2, y, rfl, hb2, hyk, e0, e1, e2⟩ := ha2.get hkl
        have h0 := (hnx.cell (p := ⟨b, o + k * 3, none⟩) hb).trans d0
        have h1 := (hnx.cell (p := ⟨b, o + k * 3 + 1, none⟩) hb).trans d1
        have h2 := (hnx.cell (p := ⟨b, o + k * 3 + 2, none⟩) hb).trans d2
        have k0 := (hnx.cell (p := ⟨b2, o2 + k * 3, none⟩) hb2).trans e0
        have k1 := (hnx.cell (p := ⟨b2, o2 + k * 3 + 1, none⟩) hb2).trans e1
        have k2 := (hnx.cell (p := ⟨b2, o2 + k * 3 + 2, none⟩) hb2).trans e2
        clear d0 d1 d2 e0 e1 e2 ha ha2
        by_cases q1 : x.name.toList = y.name.toList
        · by_cases q2 : x.inp = y.inp
          · by_cases q3 : x.size = y.size
            · have hxy : x = y := by cases x; cases y; simp only at q1 q2 q3; rw [bytes_ext q1, q2, q3]
              have htk' : xs.take (k + 1) = ys.take (k + 1) := by rw [List.take_add_one, List.take_add_one, hxk, hyk, htk, hxy]
              subst hxy
              clear q1 q2 q3
              go_wp2_with fail
              go_region
              all_goals (try go_wp2)
              all_goals exact ⟨⟨k + 1, by omega, by simp, htk', hdr.drew⟩, by simp [RowKit.intOf]; omega⟩
            · have hne : xs ≠ ys := fun e => by subst e; rw [hxk] at hyk; exact q3 (by rw [Option.some.inj hyk])
              go_wp2_with fail
              go_region
              all_goals (try go_wp2)
              all_goals go_ret
              all_goals exact ⟨tells_no hne, hdr.drew⟩
          · have hne : xs ≠ ys := fun e => by subst e; rw [hxk] at hyk; exact q2 (by rw [Option.some.inj hyk])
            go_wp2_with fail
            go_region
            all_goals (try go_wp2)
            all_goals go_ret
            all_goals exact ⟨tells_no hne, hdr.drew⟩
        · have hne : xs ≠ ys := fun e => by subst e; rw [hxk] at hyk; exact q1 (by rw [Option.some.inj hyk])
          go_wp2_with fail
          go_region
          all_goals (try go_wp2)
          all_goals go_ret
          all_goals exact ⟨tells_no hne, hdr.drew⟩
      · have he := take_same' hl (by omega) htk
        go_wp2
        go_ret
        exact ⟨tells_yes he, hdr⟩
  · have hne : xs ≠ ys := fun e => hl (by rw [e])
    have hz : ¬ ((xs.length : Int) = (ys.length : Int)) := by omega
    go_wp2
    go_ret
    exact ⟨tells_no hne, Drawn.refl _⟩
end Go.Proofs.YtcedalofcekdkaaGreatDoor
end
