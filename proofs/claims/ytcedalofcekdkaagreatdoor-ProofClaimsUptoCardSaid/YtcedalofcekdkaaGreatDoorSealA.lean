/- The functions Seal and numbers, walked, and the plain law of the seal. -/
import Derived.Test.YtcedalofcekdkaaGreatDoorProg
import Derived.WalkKit
import Derived.Deep.QuietTactic
import Derived.BigQuiet
set_option linter.unusedSimpArgs false
set_option linter.unusedVariables false
section
namespace Go.Proofs.YtcedalofcekdkaaGreatDoor
open Go.RowKit

def sealStep (s : Nat × Nat) (x : Nat) : Nat × Nat := ((s.1 + x * (s.2 * 3 % 65521)) % 65521, s.2 * 3 % 65521)
def sealFrom (l : List Nat) : Nat × Nat := l.foldl sealStep (0, 1)
def sealN (l : List Nat) : Nat := (sealFrom l).1

theorem sealFrom_lt (l : List Nat) : (sealFrom l).1 < 65521 ∧ (sealFrom l).2 < 65521 := by
  unfold sealFrom
  rcases List.eq_nil_or_concat l with rfl | ⟨l', x, rfl⟩
  · simp
  · simp only [List.concat_eq_append, List.foldl_append, List.foldl_cons, List.foldl_nil, sealStep]
    exact ⟨Nat.mod_lt _ (by omega), Nat.mod_lt _ (by omega)⟩

theorem sealFrom_succ (zs : List Nat) (k : Nat) (hk : k < zs.length) : sealFrom (zs.take (k + 1)) = sealStep (sealFrom (zs.take k)) (zs[k]?.getD 0) := by
  unfold sealFrom
  rw [List.take_add_one, List.getElem?_eq_getElem hk, List.foldl_append]
  rfl

theorem seal_round (h p x : Nat) (h1 : h < 65521) (hx : x < 65521) :
    (wrap64 ((h : Int) + wrap64 ((x : Int) % 65521 * ((p : Int) * 3 % 65521)))).tmod 65521 = ((sealStep (h, p) x).1 : Nat) := by
  have hx' : ((x : Int) % 65521) = (x : Nat) := by omega
  have hp : ((p : Int) * 3 % 65521) = ((p * 3 % 65521 : Nat) : Int) := by omega
  have hp2 : p * 3 % 65521 < 65521 := Nat.mod_lt _ (by omega)
  have hm : x * (p * 3 % 65521) ≤ 65521 * 65521 := Nat.mul_le_mul (by omega) (by omega)
  have hw : ∀ n : Nat, n ≤ 9223372036854775807 → wrap64 (n : Int) = n := fun n hn => by unfold wrap64; omega
  rw [hx', hp, ← Int.natCast_mul, hw _ (by omega), ← Int.natCast_add, hw _ (by omega)]
  simp only [sealStep]
  rw [Int.tmod_eq_emod_of_nonneg (by omega)]
  omega

theorem seal_any (b off len cap : Nat) (zs : List Nat) (w : World) (hz : len ≤ zs.length) (hbig : len ≤ 9223372036854775807) (hlt : ∀ j, zs.getD j 0 < 65521)
    (hc : ∀ j, j < len → w.cell? ⟨b, off + j, none⟩ = some (.int .i64 (zs.getD j 0 : Nat))) :
    Calls Tryz.prog 10 #[.slice (some ⟨b, off, none⟩) len cap] w fun e w' => e = .returned (.int .i64 (sealN (zs.take len) : Nat)) ∧ w' = w := by
  go_enter Tryz.func10, Tryz.ntmps10
  go_wp2
  go_loop [3, 4, 9] (fun h p i => ∃ k : Nat, k ≤ len ∧ i = .int .i64 k ∧ h = .int .i64 ((sealFrom (zs.take k)).1 : Nat) ∧ p = .int .i64 ((sealFrom (zs.take k)).2 : Nat))
    (fun _ _ i => len - (intOf i).toNat)
  case atStart => exact ⟨0, Nat.zero_le _, rfl, rfl, rfl⟩
  case round =>
    obtain ⟨k, hk, rfl, rfl, rfl⟩ := hrel
    have hcell : k < len → w.cell? ⟨b, off + k, none⟩ = some (.int .i64 (zs.getD k 0 : Nat)) := fun h => hc k h
    have h1 := (sealFrom_lt (zs.take k)).1
    have h2 := (sealFrom_lt (zs.take k)).2
    have h3 := hlt k
    have hs : k < zs.length → sealFrom (zs.take (k + 1)) = sealStep (sealFrom (zs.take k)) (zs[k]?.getD 0) := sealFrom_succ zs k
    go_wp2
    · have hlt' : k < len := by assumption
      have hr := seal_round (sealFrom (zs.take k)).1 (sealFrom (zs.take k)).2 (zs[k]?.getD 0) h1 (by simpa using h3)
      have hk1 := hs (by omega)
      go_round
      case rel =>
        refine ⟨k + 1, by omega, by go_num, ?_, ?_⟩
        · rw [hr, hk1]
        · rw [hk1]; simp only [sealStep]; congr 1
      case measure => simp [intOf]; omega
    · have hge : ¬ k < len := by assumption
      have hkl : k = len := by omega
      subst hkl
      go_ret
      exact ⟨rfl, rfl⟩
end Go.Proofs.YtcedalofcekdkaaGreatDoor
end

section
namespace Go.Proofs.YtcedalofcekdkaaGreatDoor
open Go.RowKit

theorem info3 : (Tryz.prog.info? 3).map (fun i => (i.zero, i.size, i.bytes)) = some (some (.int .i64 0), 1, 8) := by kernel_rfl

abbrev numsOf (zs : List Nat) : List Nat := zs.map (· % 65520)
abbrev ints (l : List Nat) : List Value := l.map fun x => .int .i64 (x : Nat)

theorem nums_succ (zs : List Nat) (k : Nat) (hk : k < zs.length) : ints (numsOf (zs.take (k + 1))) = ints (numsOf (zs.take k)) ++ [.int .i64 ((zs[k]?.getD 0 % 65520 : Nat) : Int)] := by
  have h : zs.take (k + 1) = zs.take k ++ [zs[k]?.getD 0] := by rw [List.take_add_one, List.getElem?_eq_getElem hk]; rfl
  rw [h]
  simp only [ints, numsOf, List.map_append, List.map_cons, List.map_nil]

theorem num_val (z : Nat) (h : z < 65536) : (wrap64 (z : Int)).tmod 65520 = ((z % 65520 : Nat) : Int) := by
  have hw : wrap64 (z : Int) = z := by unfold wrap64; omega
  rw [hw, Int.tmod_eq_emod_of_nonneg (by omega)]
  omega

set_option maxHeartbeats 1600000 in
set_option maxRecDepth 1000000 in
theorem numbers_any (b off len cap : Nat) (zs : List Nat) (w : World) (hz : len ≤ zs.length) (hsmall : len ≤ 1000) (hu : ∀ j, zs.getD j 0 < 65536) (hb : b < w.heap.size)
    (hc : ∀ j, j < len → w.cell? ⟨b, off + j, none⟩ = some (.int .u16 (zs.getD j 0 : Nat))) :
    Calls Tryz.prog 9 #[.slice (some ⟨b, off, none⟩) len cap] w fun e w' => ∃ v, e = .returned v ∧ w'.ownsRow w.heap.size 3 1 v len (ints (numsOf (zs.take len))) ∧ Below w.heap.size w w' ∧ v ≠ .slice none 0 0 := by
  obtain ⟨i0, hi, hz0, hz1, hz2⟩ := info_parts info3
  go_enter Tryz.func9, Tryz.ntmps9
  go_wp2
  go_loopw [3, 4] (fun v i wr => ∃ k : Nat, k ≤ len ∧ i = .int .i64 k ∧ wr.ownsRow w.heap.size 3 1 v k (ints (numsOf (zs.take k))) ∧ Below w.heap.size w wr ∧ v ≠ .slice none 0 0)
    (fun _ i _ => len - (intOf i).toNat)
  case atStart => exact ⟨0, Nat.zero_le _, rfl, World.ownsRow_made w #[] 0 (Nat.le_refl _) (by decide) rfl, (Below.refl _ _).alloc (Nat.le_refl _) _, by simp⟩
  case round =>
    obtain ⟨k, hk, rfl, hown, hnx, hne⟩ := hrel
    have hcx : k < len → wr.cell? ⟨b, off + k, none⟩ = some (.int .u16 (zs.getD k 0 : Nat)) := fun h => (hnx.cell hb).trans (hc k h)
    have hu' := hu k
    have hu'' : zs[k]?.getD 0 < 65536 := by simpa using hu'
    go_wp2_with (first
      | (at_builtin; refine wpList_append_own _ rfl _ _ 25 rfl w.heap.size 3 i0 (.int .i64 0) 1 8 Tryz.underlying25 hi hz0 hz1 hz2 rfl (by decide) _ _ _ rfl (hown.alloc _) ⟨wr.heap.size, 0, none⟩ 1 1 [.int .i64 ((zs[k]?.getD 0 % 65520 : Nat) : Int)] rfl rfl ?c1 ?c2 ?c3 ?c4 ?c5 ?_)
      | go_in)
    case c1 =>
      intro j u hj
      match j, hj with
      | 0, hj => simp at hj; subst hj; simp [Addr.add, num_val _ hu'']
    case c2 => intro u hu; simp at hu; subst hu; rfl
    case c3 => unfold maxLen; omega
    case c4 => omega
    case c5 => have := hnx.size; simp; omega
    · intro v' w1 hown' hgrow hnil
      have hlt : k < len := by assumption
      have hB := hnx.size
      have hb2 : Below w.heap.size w w1 := (hnx.alloc (by omega) _).grown hgrow (by simp; omega) (fun j hj => by have := (hown.lt j hj).1; omega)
      have hne' : v' ≠ .slice none 0 0 := fun e => by simp [e] at hnil
      have ho : w1.ownsRow w.heap.size 3 1 v' (k + 1) (ints (numsOf (zs.take (k + 1)))) := by rw [nums_succ zs k (by omega)]; simpa [ints, numsOf] using hown'
      clear hown' hgrow hown hcx hnil hnx
      go_wp2
      go_roundw
      case rel => exact ⟨k + 1, by omega, by go_num, ho, hb2, hne'⟩
      case measure => simp [intOf]; omega
    · have hge : ¬ k < len := by assumption
      have hkl : k = len := by omega
      subst hkl
      go_wp2
      go_ret
      exact ⟨_, rfl, hown, hnx, hne⟩

theorem numbers_empty (a : Option Addr) (cap : Nat) (w : World) :
    Calls Tryz.prog 9 #[.slice a 0 cap] w fun e w' => ∃ v, e = .returned v ∧ w'.ownsRow w.heap.size 3 1 v 0 [] ∧ Below w.heap.size w w' ∧ v ≠ .slice none 0 0 := by
  go_enter Tryz.func9, Tryz.ntmps9
  go_wp2
  refine wp_loop_rounds 1 ?_
  rw [rounds_succ]
  go_wp2
  go_ret
  exact ⟨_, rfl, World.ownsRow_made w #[] 0 (Nat.le_refl _) (by decide) rfl, (Below.refl _ _).alloc (Nat.le_refl _) _, by simp⟩
end Go.Proofs.YtcedalofcekdkaaGreatDoor
end

section
namespace Go.Proofs.YtcedalofcekdkaaGreatDoor
open Go.RowKit

theorem own_below {w w' : World} {B e size n : Nat} {v : Value} {xs : List Value} (h : w.ownsRow B e size v n xs) (hb : Below w.heap.size w w') : w'.ownsRow B e size v n xs := by
  refine ⟨h.1, ?_⟩
  rcases h.2 with hn | ⟨g, cap, cur, rfl, hB, hg, rest⟩
  · exact .inl hn
  · exact .inr ⟨g, cap, cur, rfl, hB, by rw [hb.block g (Array.getElem?_eq_some_iff.1 hg).1]; exact hg, rest⟩

theorem own_form {w : World} {B e size n : Nat} {v : Value} {xs : List Value} (h : w.ownsRow B e size v n xs) (hne : v ≠ .slice none 0 0) : ∃ g cap, v = .slice (some ⟨g, 0, none⟩) n cap ∧ B ≤ g ∧ g < w.heap.size := by
  rcases h.2 with ⟨rfl, _⟩ | ⟨g, cap, cur, rfl, hB, hg, _⟩
  · exact absurd rfl hne
  · exact ⟨g, cap, rfl, hB, (Array.getElem?_eq_some_iff.1 hg).1⟩

end Go.Proofs.YtcedalofcekdkaaGreatDoor
end
