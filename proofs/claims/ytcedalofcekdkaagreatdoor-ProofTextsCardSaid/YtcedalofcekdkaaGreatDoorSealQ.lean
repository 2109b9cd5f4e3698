/- Facts on lists of small numbers; ProofSeal, walked. -/
import Derived.Test.YtcedalofcekdkaaGreatDoorSealA
import Derived.Deep.RegionWith
set_option linter.unusedSimpArgs false
set_option linter.unusedVariables false
namespace Go.Proofs.YtcedalofcekdkaaGreatDoor
open Go.RowKit

theorem numsOf_lt (zs : List Nat) (j : Nat) : (numsOf zs).getD j 0 < 65520 := by
  simp only [numsOf, List.getD_eq_getElem?_getD, List.getElem?_map]
  cases zs[j]? with
  | none => simp
  | some x => simp; omega

theorem pow_val (p : Nat) (h : p < 65521) : (wrap64 ((p : Int) * 3)).tmod 65521 = ((p * 3 % 65521 : Nat) : Int) := by
  have hw : wrap64 ((p : Int) * 3) = ((p * 3 : Nat) : Int) := by unfold wrap64; omega
  rw [hw, Int.tmod_eq_emod_of_nonneg (by omega)]
  omega

theorem powN_succ (k : Nat) : powN 1 (k + 1) = powN 1 k * 3 % 65521 := by
  have h : ∀ (k : Nat) p, powN p (k + 1) = powN p k * 3 % 65521 := by
    intro k
    induction k with
    | zero => intro p; rfl
    | succ k ih => intro p; exact ih _
  exact h k 1

theorem conv_val (b : Nat) (h : b < 65536) : (wrap64 (b : Int)).tmod 65520 = ((b % 65520 : Nat) : Int) := by
  have hw : wrap64 (b : Int) = b := by unfold wrap64; omega
  rw [hw, Int.tmod_eq_emod_of_nonneg (by omega)]
  omega
theorem place_val (a k : Nat) (h : a < 65536) : (wrap64 (a : Int)).tmod k = ((a % k : Nat) : Int) := by
  have hw : wrap64 (a : Int) = a := by unfold wrap64; omega
  rw [hw, Int.tmod_eq_emod_of_nonneg (by omega)]
  rfl
theorem sum_val (ms ns : List Nat) : (wrap64 ((sealN ms : Nat) + wrap64 ((powN 1 ms.length : Nat) * (sealN ns : Nat)))).tmod 65521 = ((sealN (ms ++ ns) : Nat) : Int) := by
  rw [seal_app]
  have b0 := (sealFrom_lt ms).1
  have b1 := (sealFrom_lt ns).1
  have hp := powN_lt ms.length 1 (by omega)
  have hm : powN 1 ms.length * sealN ns ≤ 65521 * 65521 := Nat.mul_le_mul (by omega) (by unfold sealN; omega)
  have hw : ∀ n : Nat, n ≤ 9223372036854775807 → wrap64 (n : Int) = n := fun n hn => by unfold wrap64; omega
  unfold sealN at *
  rw [← Int.natCast_mul, hw _ (by omega), ← Int.natCast_add, hw _ (by omega), Int.tmod_eq_emod_of_nonneg (by omega)]
  omega
theorem app_lt {ms ns : List Nat} (n0 : ∀ j, ms.getD j 0 < 65520) (n1 : ∀ j, ns.getD j 0 < 65520) : ∀ j, (ms ++ ns).getD j 0 < 65521 := by
  intro j
  rw [List.getD_eq_getElem?_getD, List.getElem?_append]
  split
  · have := n0 j; rw [List.getD_eq_getElem?_getD] at this; omega
  · have := n1 (j - ms.length); rw [List.getD_eq_getElem?_getD] at this; omega
theorem set_lt {ms : List Nat} {q r : Nat} (n0 : ∀ j, ms.getD j 0 < 65520) (hr : r < 65520) : ∀ j, (ms.set q r).getD j 0 < 65521 := by
  intro j
  rw [List.getD_eq_getElem?_getD, List.getElem?_set]
  split
  · split
    · simp; omega
    · simp
  · have := n0 j; rw [List.getD_eq_getElem?_getD] at this; omega

theorem same_eq {ms : List Nat} {q r : Nat} (h : q < ms.length) (hiff : (sealN (ms.set q r) = sealN ms) ↔ r = ms.getD q 0) :
    ((((sealN (ms.set q r) : Nat) : Int) == ((sealN ms : Nat) : Int)) == (((r : Nat) : Int) == ((ms[q]'h : Nat) : Int))) = true := by
  rw [show ms.getD q 0 = ms[q] by simp [h]] at hiff
  rw [beq_iff_eq, Bool.eq_iff_iff, beq_iff_eq, beq_iff_eq, Int.ofNat_inj, Int.ofNat_inj]
  exact hiff

theorem k_zero {k : Nat} (h : ((k : Int) == 0) = true) : k = 0 := by
  have h2 : (k : Int) = 0 := by simpa using h
  omega
theorem k_pos {k : Nat} (h : ((k : Int) == 0) = false) : k ≠ 0 := by
  have h2 : (k : Int) ≠ 0 := by simpa using h
  omega

set_option maxHeartbeats 1600000 in
set_option maxRecDepth 1000000 in
theorem proofSeal_walk {w : World} {v0 v1 : Value} {xs ys : List Nat} (hx : U16Row w v0 xs) (hy : U16Row w v1 ys) (a b : Nat) (ha : a < 65536) (hb : b < 65536) (hL : Go.Proofs.YtcedalofcekdkaaGreatDoor.Ex.Laid 5 w) :
    Calls Tryz.prog 3 #[v0, v1, .int .u16 (a : Nat), .int .u16 (b : Nat)] w fun e w' => e = .returned (.bool true) ∧ Below w.heap.size w w' := by
  have hx' := hx
  have hy' := hy
  obtain ⟨a0, c0, rfl, -, -⟩ := hx'
  obtain ⟨a1, c1, rfl, -, -⟩ := hy'
  obtain ⟨i0, hi, hz0, hz1, hz2⟩ := info_parts info3
  go_enter Tryz.func3, Tryz.ntmps3
  go_wp2_with fail
  refine (head_calls hL).mono ?_
  rintro e w1 ⟨rfl, hB1⟩
  go_wp2_with fail
  · go_ret
    exact ⟨rfl, hB1⟩
  rotate_left
  · go_ret
    exact ⟨rfl, hB1⟩
  have hlx : xs.length ≤ 200 := by omega
  have hly : ys.length ≤ 200 := by omega
  refine (numbers_row (hx.below hB1) (by omega)).mono ?_
  rintro e w2 ⟨g0, k0, rfl, hg0, hg0', ho0, hB2⟩
  go_wp2_with fail
  have hB2' : Below w.heap.size w w2 := hB1.trans (hB2.mono hB1.size)
  refine (numbers_row (hy.below hB2') (by omega)).mono ?_
  rintro e w3 ⟨g1, k1, rfl, hg1, hg1', ho1, hB3⟩
  have hB3' : Below w.heap.size w w3 := hB2'.trans (hB3.mono hB2'.size)
  have ho0 := own_below ho0 hB3
  have e0 : (numsOf xs).length = xs.length := by simp [numsOf]
  have e1 : (numsOf ys).length = ys.length := by simp [numsOf]
  have n0 := numsOf_lt xs
  have n1 := numsOf_lt ys
  have s1 := hB1.size
  have s2 := hB2.size
  have s3 := hB3.size
  clear hx hy hB1 hB2 hB3 hB2' hL
  generalize numsOf xs = ms at *
  generalize numsOf ys = ns at *
  generalize xs.length = m at *
  generalize ys.length = n at *
  go_wp2_with fail
  go_loop [12, 13] (fun p i => ∃ k : Nat, k ≤ m ∧ i = .int .i64 k ∧ p = .int .i64 (powN 1 k : Nat))
    (fun _ i => m - (intOf i).toNat)
  case atStart => exact ⟨0, Nat.zero_le _, rfl, rfl⟩
  case round =>
    obtain ⟨k, hk, rfl, rfl⟩ := hrel
    have hp := powN_lt k 1 (by omega)
    have hpv := pow_val (powN 1 k) hp
    have hs : powN 1 (k + 1) = powN 1 k * 3 % 65521 := powN_succ k
    go_wp2_with (first
      | (at_builtin; refine wpList_append_own _ rfl _ _ 25 rfl w3.heap.size 3 i0 (.int .i64 0) 1 8 Tryz.underlying25 hi hz0 hz1 hz2 rfl (by decide) _ _ _ rfl (World.ownsRow_made w3 #[] 0 (Nat.le_refl _) (by decide) rfl) ⟨g0, 0, none⟩ m k0 (ints ms) rfl ?c0 ?c1 ?c2 ?c3 ?c4 ?c5 ?_))
    case roundEnd =>
      go_round
      case rel =>
        refine ⟨k + 1, by omega, by go_num, ?_⟩
        rw [hs]; congr 1
      case measure => simp [intOf]; omega
    case c1 =>
      intro j x hj
      have := (ho0.alloc (.cells #[] 3)).cells rfl j (.int .i64 x) (by simp [hj])
      rw [show (⟨g0, 0, none⟩ : Addr).add j = ⟨g0, j, none⟩ by unfold Addr.add; split <;> simp_all] at this
      exact this
    case c2 => intro _ _; rfl
    case c3 => unfold maxLen; omega
    case c4 => omega
    intro v4 w4 ho4 hg4 hne4
    have hkm : k = m := by omega
    subst hkm
    clear hs hpv
    have hB4 : Below w3.heap.size w3 w4 := ((Below.refl _ _).alloc (Nat.le_refl _) _).grown hg4 (by simp) (fun j hj => by simp [Value.ownBlock] at hj; omega)
    have ho1' := own_below ho1 hB4
    have s4 := hB4.size
    obtain ⟨g4, k4, rfl, hgb4, hgc4⟩ := own_form ho4 hne4
    clear hg4 hne4
    go_wp2_with (first
      | (at_builtin; (refine wpList_append_own _ rfl _ _ 25 rfl w3.heap.size 3 i0 (.int .i64 0) 1 8 Tryz.underlying25 hi hz0 hz1 hz2 rfl (by decide) _ _ _ rfl ho4 ⟨g1, 0, none⟩ n k1 (ints ns) rfl ?d0 ?d1 ?d2 ?d3 ?d4 ?d5 ?_)))
    case d0 => simp [e1]
    case d1 => exact ho1'.cells rfl
    case d2 => intro u hu; simp only [ints, List.mem_map] at hu; obtain ⟨_, _, rfl⟩ := hu; rfl
    case d3 => unfold maxLen; omega
    case d4 => omega
    case d5 => omega
    intro v5 w5 ho5 hg5 hne5
    have hB5 : Below w3.heap.size w3 w5 := hB4.grown hg5 (by omega) (fun j hj => by simp [Value.ownBlock] at hj; omega)
    have ho0' := own_below ho0 hB5
    have ho1' := own_below ho1 hB5
    have s5 := hB5.size
    obtain ⟨g5, k5, rfl, hgb5, hgc5⟩ := own_form ho5 hne5
    have ho5 : w5.ownsRow w3.heap.size 3 1 (.slice (some ⟨g5, 0, none⟩) (k + n) k5) (k + n) (ints (ms ++ ns)) := by simpa [ints] using ho5
    clear hg5 hne5 hB4 ho4
    have hk1000 : k ≤ 1000 := by omega
    have nlt := app_lt n0 n1
    have m0 : ∀ j, ms.getD j 0 < 65521 := fun j => by have := n0 j; omega
    have m1 : ∀ j, ns.getD j 0 < 65521 := fun j => by have := n1 j; omega
    go_wp2_with fail
    refine (seal_row ho5 (by omega) nlt).mono ?_
    rintro e w6 ⟨rfl, rfl⟩
    go_wp2_with fail
    refine (seal_row ho0' hk1000 m0).mono ?_
    rintro e w6 ⟨rfl, rfl⟩
    go_wp2_with fail
    refine (seal_row ho1' (by omega) m1).mono ?_
    rintro e w6 ⟨rfl, rfl⟩
    have hsum := sum_val ms ns
    rw [e0] at hsum
    go_wp2_with (first
      | (at_builtin; refine wpList_append_own _ rfl _ _ 25 rfl w6.heap.size 3 i0 (.int .i64 0) 1 8 Tryz.underlying25 hi hz0 hz1 hz2 rfl (by decide) _ _ _ rfl (World.ownsRow_made w6 #[] 0 (Nat.le_refl _) (by decide) rfl) ⟨g0, 0, none⟩ k k0 (ints ms) rfl ?f0 ?f1 ?f2 ?f3 ?f4 ?f5 ?_))
    ·
      refine (seal_row ho0' hk1000 m0).mono ?_
      rintro e w7 ⟨rfl, rfl⟩
      have hk0 : k = 0 := by
        have h : ((k : Int) == 0) = true := by assumption
        exact k_zero h
      subst hk0
      have : ms = [] := List.eq_nil_of_length_eq_zero e0
      subst this
      have hs0 : sealN [] = 0 := rfl
      rw [hs0]
      go_wp2
      go_ret
      exact ⟨rfl, hB3'.trans (hB5.mono hB3'.size)⟩
    case f0 => simp [e0]
    case f1 => exact (ho0'.alloc _).cells rfl
    case f2 => intro u hu; simp only [ints, List.mem_map] at hu; obtain ⟨_, _, rfl⟩ := hu; rfl
    case f3 => clear hsum; unfold maxLen; omega
    case f4 => clear hsum; omega
    case f5 => simp
    clear hsum
    intro v7 w7 ho7 hg7 hne7
    have hk0 : k ≠ 0 := by
      have h : ((k : Int) == 0) = false := by assumption
      exact k_pos h
    have hB7 : Below w6.heap.size w6 w7 := ((Below.refl _ _).alloc (Nat.le_refl _) _).grown hg7 (by simp) (fun j hj => by simp [Value.ownBlock] at hj; omega)
    have ho0'' := own_below ho0' hB7
    have s7 := hB7.size
    obtain ⟨g7, k7, rfl, hgb7, hgc7⟩ := own_form ho7 hne7
    have hB7' : Below w.heap.size w w7 := hB3'.trans ((hB5.trans (hB7.mono hB5.size)).mono hB3'.size)
    clear hg7 hne7 ho5 ho1' ho0'
    have hne7 : g7 ≠ g0 := by omega
    have hBg7 : w.heap.size ≤ g7 := by omega
    have hrlt : b % 65520 < 65520 := Nat.mod_lt _ (by decide)
    have hrv := conv_val b hb
    have hqlt : a % k < k := Nat.mod_lt _ (Nat.pos_of_ne_zero hk0)
    have hqv := place_val a k ha
    clear hb ha
    generalize b % 65520 = r at *
    generalize a % k = q at *
    have hcell : w7.cell? ⟨g7, q, none⟩ = some (.int .i64 (ms.getD q 0 : Nat)) := by
      rw [ho7.cellAt q (by rw [Nat.mul_one]; exact hqlt)]
      have : q < ms.length := by rw [e0]; exact hqlt
      simp [this]
    have hfz := ho7.frozenAt q
    have hcell0 : w7.cell? ⟨g0, q, none⟩ = some (.int .i64 (ms.getD q 0 : Nat)) := by
      rw [ho0''.cellAt q (by rw [Nat.mul_one]; exact hqlt)]
      have : q < ms.length := by rw [e0]; exact hqlt
      simp [this]
    obtain ⟨hA, hgA⟩ := ho7.stored q (.int .i64 (r : Nat))
    have hB8 : Below w.heap.size w (w7.setCell ⟨g7, q, none⟩ (.int .i64 (r : Nat))) := hB7'.setCell hBg7 _
    have hA : (w7.setCell ⟨g7, q, none⟩ (.int .i64 (r : Nat))).ownsRow w6.heap.size 3 1 (.slice (some ⟨g7, 0, none⟩) k k7) k (ints (ms.set q r)) := by
      have e : ints (ms.set q r) = (ints ms).set q (.int .i64 (r : Nat)) := by simp only [ints, List.map_set]
      rw [e]; exact hA
    have hA0 := ho0''.kept hgA (.inr (fun e => hne7 (by simpa [Value.ownBlock] using e.symm)))
    have hiff := seal_set ms q r (by rw [e0]; exact hqlt) m0 (Nat.lt_succ_of_lt hrlt)
    have hlt := set_lt (q := q) n0 hrlt
    go_wp2_with fail
    go_quiet ((first
      | (go_at_call_of 10 (Value.slice (some ⟨g7, 0, none⟩) k k7); exact Calls.quiet_of_same (seal_row (show World.ownsRow (World.drewN _ _) _ _ _ _ _ _ from hA) hk1000 hlt))
      | (go_at_call_of 10 (Value.slice (some ⟨g0, 0, none⟩) k k0); exact Calls.quiet_of_same (seal_row (show World.ownsRow (World.drewN _ _) _ _ _ _ _ _ from hA0) hk1000 m0))))
    have hqm : q < ms.length := by rw [e0]; exact hqlt
    rw [show ((((sealN (ms.set q r) : Nat) : Int) == ((sealN ms : Nat) : Int)) == (((r : Nat) : Int) == ((ms[q]'hqm : Nat) : Int))) = true from same_eq hqm hiff]
    clear hA hA0 hcell hcell0 hfz ho7 ho0'' hgA hiff hlt n0 n1 m0 m1
    go_wp2
    go_ret
    exact ⟨rfl, hB8.os, hB8.tape, hB8.output, hB8.size, hB8.block⟩
end Go.Proofs.YtcedalofcekdkaaGreatDoor
