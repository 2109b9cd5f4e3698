/- The functions Seal and numbers, walked, and the plain law of the seal. -/
import Derived.Test.YtcedalofcekdkaaGreatDoorProg
import Derived.WalkKit
import Derived.Test.YtcedalofcekdkaaGreatDoorHeadOK
import Derived.Deep.QuietTactic
import Derived.BigQuiet
set_option linter.unusedSimpArgs false
set_option linter.unusedVariables false
section
namespace Go.Proofs.YtcedalofcekdkaaGreatDoor
open Go.RowKit

def sealStep (s : Nat × Nat) (x : Nat) : Nat × Nat := ((s.1 + x * (s.2 * 3 % 65521)) % 65521, s.2 * 3 % 65521)
def sealFrom (l : List Nat) : Nat × Nat := l.foldl sealStep (0, 1)
def sealN (l : List Nat) : Nat := (sealFrom l).1

theorem sealFrom_lt (l : List Nat) : (sealFrom l).1 < 65521 ∧ (sealFrom l).2 < 65521 := by
  unfold sealFrom
  rcases List.eq_nil_or_concat l with rfl | ⟨l', x, rfl⟩
  · simp
  · simp only [List.concat_eq_append, List.foldl_append, List.foldl_cons, List.foldl_nil, sealStep]
    exact ⟨Nat.mod_lt _ (by omega), Nat.mod_lt _ (by omega)⟩

theorem sealFrom_succ (zs : List Nat) (k : Nat) (hk : k < zs.length) : sealFrom (zs.take (k + 1)) = sealStep (sealFrom (zs.take k)) (zs[k]?.getD 0) := by
  unfold sealFrom
  rw [List.take_add_one, List.getElem?_eq_getElem hk, List.foldl_append]
  rfl

theorem seal_round (h p x : Nat) (h1 : h < 65521) (hx : x < 65521) :
    (wrap64 ((h : Int) + wrap64 ((x : Int) % 65521 * ((p : Int) * 3 % 65521)))).tmod 65521 = ((sealStep (h, p) x).1 : Nat) := by
  have hx' : ((x : Int) % 65521) = (x : Nat) := by omega
  have hp : ((p : Int) * 3 % 65521) = ((p * 3 % 65521 : Nat) : Int) := by omega
  have hp2 : p * 3 % 65521 < 65521 := Nat.mod_lt _ (by omega)
  have hm : x * (p * 3 % 65521) ≤ 65521 * 65521 := Nat.mul_le_mul (by omega) (by omega)
  have hw : ∀ n : Nat, n ≤ 9223372036854775807 → wrap64 (n : Int) = n := fun n hn => by unfold wrap64; omega
  rw [hx', hp, ← Int.natCast_mul, hw _ (by omega), ← Int.natCast_add, hw _ (by omega)]
  simp only [sealStep]
  rw [Int.tmod_eq_emod_of_nonneg (by omega)]
  omega

theorem seal_any (b off len cap : Nat) (zs : List Nat) (w : World) (hz : len ≤ zs.length) (hbig : len ≤ 9223372036854775807) (hlt : ∀ j, zs.getD j 0 < 65521)
    (hc : ∀ j, j < len → w.cell? ⟨b, off + j, none⟩ = some (.int .i64 (zs.getD j 0 : Nat))) :
    Calls Tryz.prog 10 #[.slice (some ⟨b, off, none⟩) len cap] w fun e w' => e = .returned (.int .i64 (sealN (zs.take len) : Nat)) ∧ w' = w := by
  go_enter Tryz.func10, Tryz.ntmps10
  go_wp2
  go_loop [3, 4, 9] (fun h p i => ∃ k : Nat, k ≤ len ∧ i = .int .i64 k ∧ h = .int .i64 ((sealFrom (zs.take k)).1 : Nat) ∧ p = .int .i64 ((sealFrom (zs.take k)).2 : Nat))
    (fun _ _ i => len - (intOf i).toNat)
  case atStart => exact ⟨0, Nat.zero_le _, rfl, rfl, rfl⟩
  case round =>
    obtain ⟨k, hk, rfl, rfl, rfl⟩ := hrel
    have hcell : k < len → w.cell? ⟨b, off + k, none⟩ = some (.int .i64 (zs.getD k 0 : Nat)) := fun h => hc k h
    have h1 := (sealFrom_lt (zs.take k)).1
    have h2 := (sealFrom_lt (zs.take k)).2
    have h3 := hlt k
    have hs : k < zs.length → sealFrom (zs.take (k + 1)) = sealStep (sealFrom (zs.take k)) (zs[k]?.getD 0) := sealFrom_succ zs k
    go_wp2
    · have hlt' : k < len := by assumption
      have hr := seal_round (sealFrom (zs.take k)).1 (sealFrom (zs.take k)).2 (zs[k]?.getD 0) h1 (by simpa using h3)
      have hk1 := hs (by omega)
      go_round
      case rel =>
        refine ⟨k + 1, by omega, by go_num, ?_, ?_⟩
        · rw [hr, hk1]
        · rw [hk1]; simp only [sealStep]; congr 1
      case measure => simp [intOf]; omega
    · have hge : ¬ k < len := by assumption
      have hkl : k = len := by omega
      subst hkl
      go_ret
      exact ⟨rfl, rfl⟩
end Go.Proofs.YtcedalofcekdkaaGreatDoor
end

section
namespace Go.Proofs.YtcedalofcekdkaaGreatDoor
open Go.RowKit

theorem info3 : (Tryz.prog.info? 3).map (fun i => (i.zero, i.size, i.bytes)) = some (some (.int .i64 0), 1, 8) := by kernel_rfl

abbrev numsOf (zs : List Nat) : List Nat := zs.map (· % 65520)
abbrev ints (l : List Nat) : List Value := l.map fun x => .int .i64 (x : Nat)

theorem nums_succ (zs : List Nat) (k : Nat) (hk : k < zs.length) : ints (numsOf (zs.take (k + 1))) = ints (numsOf (zs.take k)) ++ [.int .i64 ((zs[k]?.getD 0 % 65520 : Nat) : Int)] := by
  have h : zs.take (k + 1) = zs.take k ++ [zs[k]?.getD 0] := by rw [List.take_add_one, List.getElem?_eq_getElem hk]; rfl
  rw [h]
  simp only [ints, numsOf, List.map_append, List.map_cons, List.map_nil]

theorem num_val (z : Nat) (h : z < 65536) : (wrap64 (z : Int)).tmod 65520 = ((z % 65520 : Nat) : Int) := by
  have hw : wrap64 (z : Int) = z := by unfold wrap64; omega
  rw [hw, Int.tmod_eq_emod_of_nonneg (by omega)]
  omega

set_option maxHeartbeats 1600000 in
set_option maxRecDepth 1000000 in
theorem numbers_any (b off len cap : Nat) (zs : List Nat) (w : World) (hz : len ≤ zs.length) (hsmall : len ≤ 1000) (hu : ∀ j, zs.getD j 0 < 65536) (hb : b < w.heap.size)
    (hc : ∀ j, j < len → w.cell? ⟨b, off + j, none⟩ = some (.int .u16 (zs.getD j 0 : Nat))) :
    Calls Tryz.prog 9 #[.slice (some ⟨b, off, none⟩) len cap] w fun e w' => ∃ v, e = .returned v ∧ w'.ownsRow w.heap.size 3 1 v len (ints (numsOf (zs.take len))) ∧ Below w.heap.size w w' ∧ v ≠ .slice none 0 0 := by
  obtain ⟨i0, hi, hz0, hz1, hz2⟩ := info_parts info3
  go_enter Tryz.func9, Tryz.ntmps9
  go_wp2
  go_loopw [3, 4] (fun v i wr => ∃ k : Nat, k ≤ len ∧ i = .int .i64 k ∧ wr.ownsRow w.heap.size 3 1 v k (ints (numsOf (zs.take k))) ∧ Below w.heap.size w wr ∧ v ≠ .slice none 0 0)
    (fun _ i _ => len - (intOf i).toNat)
  case atStart => exact ⟨0, Nat.zero_le _, rfl, World.ownsRow_made w #[] 0 (Nat.le_refl _) (by decide) rfl, (Below.refl _ _).alloc (Nat.le_refl _) _, by simp⟩
  case round =>
    obtain ⟨k, hk, rfl, hown, hnx, hne⟩ := hrel
    have hcx : k < len → wr.cell? ⟨b, off + k, none⟩ = some (.int .u16 (zs.getD k 0 : Nat)) := fun h => (hnx.cell hb).trans (hc k h)
    have hu' := hu k
    have hu'' : zs[k]?.getD 0 < 65536 := by simpa using hu'
    go_wp2_with (first
      | (at_builtin; refine wpList_append_own _ rfl _ _ 25 rfl w.heap.size 3 i0 (.int .i64 0) 1 8 Tryz.underlying25 hi hz0 hz1 hz2 rfl (by decide) _ _ _ rfl (hown.alloc _) ⟨wr.heap.size, 0, none⟩ 1 1 [.int .i64 ((zs[k]?.getD 0 % 65520 : Nat) : Int)] rfl rfl ?c1 ?c2 ?c3 ?c4 ?c5 ?_)
      | go_in)
    case c1 =>
      intro j u hj
      match j, hj with
      | 0, hj => simp at hj; subst hj; simp [Addr.add, num_val _ hu'']
    case c2 => intro u hu; simp at hu; subst hu; rfl
    case c3 => unfold maxLen; omega
    case c4 => omega
    case c5 => have := hnx.size; simp; omega
    · intro v' w1 hown' hgrow hnil
      have hlt : k < len := by assumption
      have hB := hnx.size
      have hb2 : Below w.heap.size w w1 := (hnx.alloc (by omega) _).grown hgrow (by simp; omega) (fun j hj => by have := (hown.lt j hj).1; omega)
      have hne' : v' ≠ .slice none 0 0 := fun e => by simp [e] at hnil
      have ho : w1.ownsRow w.heap.size 3 1 v' (k + 1) (ints (numsOf (zs.take (k + 1)))) := by rw [nums_succ zs k (by omega)]; simpa [ints, numsOf] using hown'
      clear hown' hgrow hown hcx hnil hnx
      go_wp2
      go_roundw
      case rel => exact ⟨k + 1, by omega, by go_num, ho, hb2, hne'⟩
      case measure => simp [intOf]; omega
    · have hge : ¬ k < len := by assumption
      have hkl : k = len := by omega
      subst hkl
      go_wp2
      go_ret
      exact ⟨_, rfl, hown, hnx, hne⟩

theorem numbers_empty (a : Option Addr) (cap : Nat) (w : World) :
    Calls Tryz.prog 9 #[.slice a 0 cap] w fun e w' => ∃ v, e = .returned v ∧ w'.ownsRow w.heap.size 3 1 v 0 [] ∧ Below w.heap.size w w' ∧ v ≠ .slice none 0 0 := by
  go_enter Tryz.func9, Tryz.ntmps9
  go_wp2
  refine wp_loop_rounds 1 ?_
  rw [rounds_succ]
  go_wp2
  go_ret
  exact ⟨_, rfl, World.ownsRow_made w #[] 0 (Nat.le_refl _) (by decide) rfl, (Below.refl _ _).alloc (Nat.le_refl _) _, by simp⟩
end Go.Proofs.YtcedalofcekdkaaGreatDoor
end

section
namespace Go.Proofs.YtcedalofcekdkaaGreatDoor

def sealGo : Nat × Nat → List Nat → Nat × Nat
  | s, [] => s
  | s, x :: l => sealGo (sealStep s x) l

theorem sealFrom_go (l : List Nat) : sealFrom l = sealGo (0, 1) l := by
  have h : ∀ (l : List Nat) s, l.foldl sealStep s = sealGo s l := by
    intro l
    induction l with
    | nil => intro s; rfl
    | cons x l ih => intro s; exact ih _
  exact h l _

def powN : Nat → Nat → Nat
  | p, 0 => p
  | p, n + 1 => powN (p * 3 % 65521) n

theorem sealGo_pow (l : List Nat) : ∀ h p, (sealGo (h, p) l).2 = powN p l.length := by
  induction l with
  | nil => intro h p; rfl
  | cons x l ih => intro h p; exact ih _ _

theorem sealGo_lin (l : List Nat) : ∀ h p a q : Nat, p = a * q % 65521 → h < 65521 → (sealGo (h, p) l).1 = (h + a * (sealGo (0, q) l).1) % 65521 := by
  have gen : ∀ (l : List Nat) (h p a q k b : Nat), p % 65521 = a * q % 65521 → h < 65521 → k % 65521 = (b + a * h) % 65521 → ∀ k', k' < 65521 → k' % 65521 = (b + a * h) % 65521 → (sealGo (k', p) l).1 = (b + a * (sealGo (h, q) l).1) % 65521 := by
    intro l
    induction l with
    | nil =>
      intro h p a q k b _ _ _ k' hk' e
      show k' = (b + a * h) % 65521
      omega
    | cons x l ih =>
      intro h p a q k b hp hh _ k' hk' e
      show (sealGo (sealStep (k', p) x) l).1 = (b + a * (sealGo (sealStep (h, q) x) l).1) % 65521
      have e1 : (p * 3 % 65521) % 65521 = a * (q * 3 % 65521) % 65521 := by
        rw [Nat.mod_mod, Nat.mul_mod p 3, hp, ← Nat.mul_mod, Nat.mul_assoc, Nat.mul_mod a (q * 3), Nat.mul_mod a (q * 3 % 65521), Nat.mod_mod]
      have e2 : (k' + x * (p * 3 % 65521)) % 65521 = (b + a * ((h + x * (q * 3 % 65521)) % 65521)) % 65521 := by
        have c1 : x * (p * 3 % 65521) % 65521 = a * (x * (q * 3 % 65521)) % 65521 := by
          have : a * (x * (q * 3 % 65521)) = x * (a * (q * 3 % 65521)) := by rw [← Nat.mul_assoc, Nat.mul_comm a x, Nat.mul_assoc]
          rw [this, Nat.mul_mod x, e1, ← Nat.mul_mod x]
        have c2 : a * ((h + x * (q * 3 % 65521)) % 65521) % 65521 = (a * h + a * (x * (q * 3 % 65521))) % 65521 := by
          rw [Nat.mul_mod, Nat.mod_mod, ← Nat.mul_mod, Nat.mul_add]
        omega
      exact ih _ _ a _ ((k' + x * (p * 3 % 65521)) % 65521) b e1 (Nat.mod_lt _ (by omega)) (by rw [Nat.mod_mod]; exact e2) _ (Nat.mod_lt _ (by omega)) (by rw [Nat.mod_mod]; exact e2)
  intro h p a q hp hh
  exact gen l 0 p a q h h (by rw [hp, Nat.mod_mod]) (by omega) (by simp) h hh (by simp)

theorem sealGo_app (l m : List Nat) : ∀ s, sealGo s (l ++ m) = sealGo (sealGo s l) m := by
  induction l with
  | nil => intro s; rfl
  | cons x l ih => intro s; exact ih _

theorem powN_lt (n : Nat) : ∀ p, p < 65521 → powN p n < 65521 := by
  induction n with
  | zero => intro p h; exact h
  | succ n ih => intro p _; exact ih _ (Nat.mod_lt _ (by omega))

theorem seal_app (l m : List Nat) : sealN (l ++ m) = (sealN l + powN 1 l.length * sealN m) % 65521 := by
  unfold sealN
  rw [sealFrom_go, sealFrom_go, sealFrom_go, sealGo_app]
  have h1 := (sealFrom_lt l).1
  rw [sealFrom_go] at h1
  have h2 := sealGo_pow l 0 1
  have h3 : powN 1 l.length < 65521 := powN_lt _ _ (by omega)
  rw [show sealGo (0, 1) l = ((sealGo (0, 1) l).1, powN 1 l.length) from Prod.ext rfl h2]
  exact sealGo_lin m _ _ _ 1 (by rw [Nat.mul_one, Nat.mod_eq_of_lt h3]) h1

theorem powN_pow (n : Nat) : ∀ p, powN p n % 65521 = p * 3 ^ n % 65521 := by
  induction n with
  | zero => intro p; simp [powN]
  | succ n ih =>
    intro p
    show powN (p * 3 % 65521) n % 65521 = _
    rw [ih, Nat.mul_mod, Nat.mod_mod, ← Nat.mul_mod, Nat.pow_succ, Nat.mul_assoc, Nat.mul_comm 3]

theorem three_cancel (n a b : Nat) (h : 3 ^ n * a % 65521 = 3 ^ n * b % 65521) : a % 65521 = b % 65521 := by
  induction n with
  | zero => simpa using h
  | succ n ih =>
    apply ih
    have e : ∀ c, 3 ^ (n + 1) * c = 3 * (3 ^ n * c) := fun c => by rw [Nat.pow_succ, Nat.mul_comm (3 ^ n) 3, Nat.mul_assoc]
    rw [e, e] at h
    omega

theorem seal_set (l : List Nat) (k y : Nat) (hk : k < l.length) (hl : ∀ j, l.getD j 0 < 65521) (hy : y < 65521) : (sealN (l.set k y) = sealN l) ↔ y = l.getD k 0 := by
  constructor
  · intro h
    have e1 : l = l.take k ++ (l[k] :: l.drop (k + 1)) := by rw [List.getElem_cons_drop, List.take_append_drop]
    have e2 : l.set k y = l.take k ++ (y :: l.drop (k + 1)) := by rw [List.set_eq_take_append_cons_drop, if_pos hk]
    have hg : l.getD k 0 = l[k] := by simp [hk]
    have hlk := hl k
    rw [hg] at hlk ⊢
    rw [e2, seal_app] at h
    have h' : sealN l = sealN (l.take k ++ (l[k] :: l.drop (k + 1))) := by rw [← e1]
    rw [h', seal_app] at h

    have hc : ∀ x r, sealN (x :: r) = (x * 3 + 3 * sealN r) % 65521 := fun x r => by
      have := seal_app [x] r
      rw [show [x] ++ r = x :: r from rfl] at this
      rw [this]
      have p1 : powN 1 [x].length = 3 := rfl
      have s1 : sealN [x] = (x * 3) % 65521 := by simp [sealN, sealFrom, sealStep]
      rw [p1, s1]
      omega
    rw [hc, hc] at h
    have hp := powN_pow (l.take k).length 1
    rw [Nat.one_mul] at hp
    have h4 : powN 1 (l.take k).length * ((y * 3 + 3 * sealN (l.drop (k + 1))) % 65521) % 65521 = powN 1 (l.take k).length * ((l[k] * 3 + 3 * sealN (l.drop (k + 1))) % 65521) % 65521 := by omega
    have h5 := three_cancel (l.take k).length ((y * 3 + 3 * sealN (l.drop (k + 1))) % 65521) ((l[k] * 3 + 3 * sealN (l.drop (k + 1))) % 65521) (by
      rw [Nat.mul_mod, ← hp, ← Nat.mul_mod, h4, Nat.mul_mod, hp, ← Nat.mul_mod])
    clear h h' hc h4 hp e1 e2 hl
    generalize sealN (l.drop (k + 1)) = S at h5
    generalize l[k] = z at h5 hlk ⊢
    rw [Nat.mod_mod, Nat.mod_mod] at h5
    have h6 := three_cancel 1 (y + S) (z + S) (by rw [Nat.pow_one, Nat.mul_add, Nat.mul_add]; rw [Nat.mul_comm 3 y, Nat.mul_comm 3 z]; exact h5)
    have h7 : (y + S) % 65521 = (z + S) % 65521 := h6
    clear h5 h6 hg
    omega
  · intro h
    subst h
    rw [show l.getD k 0 = l[k] by simp [hk], List.set_getElem_self]
end Go.Proofs.YtcedalofcekdkaaGreatDoor
end

section
namespace Go.Proofs.YtcedalofcekdkaaGreatDoor
open Go.RowKit

theorem own_below {w w' : World} {B e size n : Nat} {v : Value} {xs : List Value} (h : w.ownsRow B e size v n xs) (hb : Below w.heap.size w w') : w'.ownsRow B e size v n xs := by
  refine ⟨h.1, ?_⟩
  rcases h.2 with hn | ⟨g, cap, cur, rfl, hB, hg, rest⟩
  · exact .inl hn
  · exact .inr ⟨g, cap, cur, rfl, hB, by rw [hb.block g (Array.getElem?_eq_some_iff.1 hg).1]; exact hg, rest⟩

theorem own_form {w : World} {B e size n : Nat} {v : Value} {xs : List Value} (h : w.ownsRow B e size v n xs) (hne : v ≠ .slice none 0 0) : ∃ g cap, v = .slice (some ⟨g, 0, none⟩) n cap ∧ B ≤ g ∧ g < w.heap.size := by
  rcases h.2 with ⟨rfl, _⟩ | ⟨g, cap, cur, rfl, hB, hg, _⟩
  · exact absurd rfl hne
  · exact ⟨g, cap, rfl, hB, (Array.getElem?_eq_some_iff.1 hg).1⟩

def U16Row (w : World) (v : Value) (zs : List Nat) : Prop :=
  ∃ a cap, v = .slice a zs.length cap ∧ (∀ j, zs.getD j 0 < 65536) ∧ (zs = [] ∨ ∃ b off, a = some ⟨b, off, none⟩ ∧ b < w.heap.size ∧ ∀ j, j < zs.length → w.cell? ⟨b, off + j, none⟩ = some (.int .u16 (zs.getD j 0 : Nat)))

theorem U16Row.below {w w' : World} {v : Value} {zs : List Nat} (h : U16Row w v zs) (hb : Below w.heap.size w w') : U16Row w' v zs := by
  obtain ⟨a, cap, rfl, h1, h2⟩ := h
  refine ⟨a, cap, rfl, h1, ?_⟩
  rcases h2 with h2 | ⟨b, off, rfl, h3, h4⟩
  · exact .inl h2
  · exact .inr ⟨b, off, rfl, Nat.lt_of_lt_of_le h3 hb.size, fun j hj => (hb.cell (p := ⟨b, off + j, none⟩) h3).trans (h4 j hj)⟩

theorem numbers_row {w : World} {v : Value} {zs : List Nat} (h : U16Row w v zs) (hs : zs.length ≤ 1000) :
    Calls Tryz.prog 9 #[v] w fun e w' => ∃ g cap, e = .returned (.slice (some ⟨g, 0, none⟩) zs.length cap) ∧ w.heap.size ≤ g ∧ g < w'.heap.size ∧ w'.ownsRow w.heap.size 3 1 (.slice (some ⟨g, 0, none⟩) zs.length cap) zs.length (ints (numsOf zs)) ∧ Below w.heap.size w w' := by
  obtain ⟨a, cap, rfl, h1, h2⟩ := h
  rcases h2 with rfl | ⟨b, off, rfl, h3, h4⟩
  · refine (numbers_empty a cap w).mono ?_
    rintro e w' ⟨v, rfl, ho, hb, hne⟩
    obtain ⟨g, cap', rfl, h5, h6⟩ := own_form ho hne
    exact ⟨g, cap', rfl, h5, h6, ho, hb⟩
  · refine (numbers_any b off zs.length cap zs w (Nat.le_refl _) hs h1 h3 h4).mono ?_
    rintro e w' ⟨v, rfl, ho, hb, hne⟩
    rw [List.take_length] at ho
    obtain ⟨g, cap', rfl, h5, h6⟩ := own_form ho hne
    exact ⟨g, cap', rfl, h5, h6, ho, hb⟩

theorem seal_row {w : World} {B g n cap : Nat} {xs : List Nat} (h : w.ownsRow B 3 1 (.slice (some ⟨g, 0, none⟩) n cap) n (ints xs)) (hn : n ≤ 1000) (hx : ∀ j, xs.getD j 0 < 65521) :
    Calls Tryz.prog 10 #[.slice (some ⟨g, 0, none⟩) n cap] w fun e w' => e = .returned (.int .i64 (sealN xs : Nat)) ∧ w' = w := by
  have hlen : xs.length = n := by have := h.1; simpa using this
  have := seal_any g 0 n cap xs w (by omega) (by omega) hx (fun j hj => by
    rw [Nat.zero_add, h.cellAt j (by omega)]
    have : j < xs.length := by omega
    simp [this])
  rwa [← hlen, List.take_length, hlen] at this

theorem head_calls {w : World} (h : Go.Proofs.YtcedalofcekdkaaGreatDoor.Ex.Laid 5 w) : Calls Tryz.prog 8 #[] w fun e w' => e = .returned (.bool true) ∧ Below w.heap.size w w' := by
  intro cs
  obtain ⟨w', hl, h1, h2, h3, h4, h5⟩ := Go.Proofs.YtcedalofcekdkaaGreatDoor.Ex.head_ok h cs
  obtain ⟨fr, hl1, hl2, hl3⟩ := hl
  exact ⟨_, w', fr, ⟨rfl, h3, h4, h5, h2, fun k hk => h1 k hk⟩, hl1, hl2, hl3⟩
end Go.Proofs.YtcedalofcekdkaaGreatDoor
end
