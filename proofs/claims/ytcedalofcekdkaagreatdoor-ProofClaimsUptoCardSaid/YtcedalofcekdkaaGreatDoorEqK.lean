/- Spots compared. -/
import Derived.Test.YtcedalofcekdkaaGreatDoorEqB
import Derived.BigQuiet
set_option linter.unusedSimpArgs false
set_option linter.unusedVariables false
namespace Go.Proofs.YtcedalofcekdkaaGreatDoor
open Go.RowKit

set_option maxHeartbeats 6400000 in
set_option maxRecDepth 1000000 in
theorem spots_tell (xs ys : List SpotD) (v v2 : Value) (w : World) (hx : SpotsV w v xs) (hy : SpotsV w v2 ys) (hlen : xs.length ≤ 1000000) (hbig : ∀ s ∈ xs, s.set.length ≤ 1000000) :
    Calls Tryz.prog 28 #[v, v2] w fun e w' => Tells e (xs = ys) ∧ Drawn w w' := by
  obtain ⟨a, c, rfl, ha⟩ := hx
  obtain ⟨a2, c2, rfl, ha2⟩ := hy
  go_enter Tryz.func28, Tryz.ntmps28
  by_cases hl : xs.length = ys.length
  · have htl := fun (k : Nat) (hk : k = xs.length) h => take_same' (xs := xs) (ys := ys) (k := k) hl hk h
    have hlt : ∀ {k}, k < ys.length → k < xs.length := fun h => by omega
    have hlx : ∀ {k}, k ≤ ys.length → ¬ k < ys.length → k = xs.length := fun h1 h2 => by omega
    rw [hl] at hlen ⊢
    clear hl
    go_wp2
    go_loopw [5] (fun i wr => ∃ k : Nat, k ≤ ys.length ∧ i = .int .i64 k ∧ Hid (xs.take k = ys.take k) ∧ Drawn w wr)
      (fun i _ => ys.length - (RowKit.intOf i).toNat)
    case atStart => exact ⟨0, Nat.zero_le _, rfl, by show _ = _; simp, Drawn.refl _⟩
    case round =>
      obtain ⟨k, hk, rfl, htk, hdr⟩ := hrel
      have hnx := hdr.below
      by_cases hkl : k < ys.length
      · obtain ⟨b, o, x, rfl, hb, hxk, d0, d1, ⟨u, d2, hu⟩, d3, d4⟩ := ha.get (hlt hkl)
        obtain ⟨b2, o2, y, rfl, hb2, hyk, e0, e1, ⟨u2, e2, hu2⟩, e3, e4⟩ := ha2.get hkl
        obtain ⟨a3, c3, rfl, -, hu⟩ := hu
        obtain ⟨a4, c4, rfl, -, hu2⟩ := hu2
        have g0 := (hnx.cell (p := ⟨b, o + k * 5, none⟩) hb).trans d0
        have g1 := (hnx.cell (p := ⟨b, o + k * 5 + 1, none⟩) hb).trans d1
        have g2 := (hnx.cell (p := ⟨b, o + k * 5 + 2, none⟩) hb).trans d2
        have g3 := (hnx.cell (p := ⟨b, o + k * 5 + 3, none⟩) hb).trans d3
        have g4 := (hnx.cell (p := ⟨b, o + k * 5 + 4, none⟩) hb).trans d4
        have f0 := (hnx.cell (p := ⟨b2, o2 + k * 5, none⟩) hb2).trans e0
        have f1 := (hnx.cell (p := ⟨b2, o2 + k * 5 + 1, none⟩) hb2).trans e1
        have f2 := (hnx.cell (p := ⟨b2, o2 + k * 5 + 2, none⟩) hb2).trans e2
        have f3 := (hnx.cell (p := ⟨b2, o2 + k * 5 + 3, none⟩) hb2).trans e3
        have f4 := (hnx.cell (p := ⟨b2, o2 + k * 5 + 4, none⟩) hb2).trans e4
        have hkI : (k : Int) < (ys.length : Int) := by omega
        have hno : ∀ {p : Prop}, (x = y → p) → ¬ p → xs ≠ ys := fun h1 h2 e => by subst e; rw [hxk] at hyk; exact h2 (h1 (Option.some.inj hyk))
        have hcall : ∀ (n : Nat) (r : Bool), decide (x.set = y.set) = r → Calls Tryz.prog 18 #[.slice a3 x.set.length c3, .slice a4 y.set.length c4] (wr.drewN n) fun e w'' => e = .returned (.bool r) ∧ ∃ m, w'' = wr.drewN m := fun n r hr => by
          have hBn : Below w.heap.size w (wr.drewN n) := ⟨hnx.os, hnx.tape, hnx.output, hnx.size, hnx.block⟩
          have := ints_quiet18 x.set y.set a3 a4 c3 c4 (wr.drewN n) (hu.below hBn) (hu2.below hBn) (hbig x (List.mem_of_getElem? hxk))
          rw [hr] at this
          exact Calls.quiet_of this
        clear d0 d1 d2 d3 d4 e0 e1 e2 e3 e4 hlt hnx
        by_cases q0 : x.machine = y.machine
        rotate_left
        · have hne := hno (fun e => by rw [e]) q0
          have q0' : (x.machine != y.machine) = true := by simpa using q0
          have q0'' : (x.machine == y.machine) = false := by simpa using q0
          clear q0 hcall hno
          go_wp2_with fail
          go_quiet (fail)
          go_wp2
          go_ret
          exact ⟨tells_no hne, hdr.trans ⟨_, rfl⟩⟩
        have q0h : Hid (x.machine = y.machine) := q0
        rw [← q0] at f0
        clear q0
        by_cases q1 : x.memory = y.memory
        rotate_left
        · have hne := hno (fun e => by rw [e]) q1
          have q1' : (x.memory != y.memory) = true := by simpa using q1
          have q1'' : (x.memory == y.memory) = false := by simpa using q1
          clear q1 hcall hno
          go_wp2_with fail
          go_quiet (fail)
          go_wp2
          go_ret
          exact ⟨tells_no hne, hdr.trans ⟨_, rfl⟩⟩
        have q1h : Hid (x.memory = y.memory) := q1
        rw [← q1] at f1
        clear q1
        by_cases q3 : x.turn = y.turn
        rotate_left
        · have hne := hno (fun e => by rw [e]) q3
          have q3' : (x.turn != y.turn) = true := by simpa using q3
          have q3'' : (x.turn == y.turn) = false := by simpa using q3
          clear q3 hcall hno
          go_wp2_with fail
          go_quiet (fail)
          go_wp2
          go_ret
          exact ⟨tells_no hne, hdr.trans ⟨_, rfl⟩⟩
        have q3h : Hid (x.turn = y.turn) := q3
        rw [← q3] at f3
        clear q3
        by_cases q4 : x.rank = y.rank
        rotate_left
        · have hne := hno (fun e => by rw [e]) q4
          have q4' : (x.rank != y.rank) = true := by simpa using q4
          have q4'' : (x.rank == y.rank) = false := by simpa using q4
          clear q4 hcall hno
          go_wp2_with fail
          go_quiet (fail)
          go_wp2
          go_ret
          exact ⟨tells_no hne, hdr.trans ⟨_, rfl⟩⟩
        have q4h : Hid (x.rank = y.rank) := q4
        rw [← q4] at f4
        clear q4
        by_cases q2 : x.set = y.set
        · have hc := fun n => hcall n true (decide_eq_true q2)
          have htk' : Hid (xs.take (k + 1) = ys.take (k + 1)) := by
            have hxy : x = y := by
              have z0 : x.machine = y.machine := q0h
              have z1 : x.memory = y.memory := q1h
              have z3 : x.turn = y.turn := q3h
              have z4 : x.rank = y.rank := q4h
              cases x; cases y; simp only at z0 z1 z3 z4 q2; rw [z0, z1, z3, z4, q2]
            show xs.take (k + 1) = ys.take (k + 1)
            rw [List.take_add_one, List.take_add_one, hxk, hyk, hxy, show xs.take k = ys.take k from htk]
          clear q2 hcall hno htl hlx
          go_wp2_with fail
          go_quiet ((go_at_call 18; exact hc _))
          go_wp2
          go_roundw
          case rel => exact ⟨k + 1, hkl, by go_num, htk', hdr.trans ⟨_, rfl⟩⟩
          case measure => simp [RowKit.intOf]; omega
        · have hne := hno (fun e => by rw [e]) q2
          have hc := fun n => hcall n false (decide_eq_false q2)
          clear q2 hcall hno htl hlx
          go_wp2_with fail
          go_quiet ((go_at_call 18; exact hc _))
          go_wp2
          go_ret
          exact ⟨tells_no hne, hdr.trans ⟨_, rfl⟩⟩
      · have he := htl k (hlx hk hkl) htk
        clear htl hlx hlt
        go_wp2
        go_ret
        exact ⟨tells_yes he, hdr⟩
  · have hne : xs ≠ ys := fun e => hl (by rw [e])
    have hz : ¬ ((xs.length : Int) = (ys.length : Int)) := by omega
    go_wp2
    go_ret
    exact ⟨tells_no hne, Drawn.refl _⟩
end Go.Proofs.YtcedalofcekdkaaGreatDoor
