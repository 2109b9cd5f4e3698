/- Texts of numbers in plain words, and what the library's functions answer there. -/
import Derived.Lib.SplitLaws
import Derived.Lib.Join
import Derived.Lib.AtoiTie
import Derived.Lib.ItoaNum
import Derived.Test.YtcedalofcekdkaaGreatDoorShelf
import Derived.Lib.AppendIntMem
set_option linter.unusedSimpArgs false
set_option linter.unusedVariables false
section
namespace Go.Proofs.YtcedalofcekdkaaGreatDoor
open Go.Lib

def cut (c : UInt8) : List UInt8 → List (List UInt8)
  | [] => [[]]
  | b :: l => if b = c then [] :: cut c l else match cut c l with
    | [] => [[b]]
    | x :: r => (b :: x) :: r

theorem cut_ne (c : UInt8) (l : List UInt8) : cut c l ≠ [] := by
  cases l with
  | nil => simp [cut]
  | cons b l =>
    unfold cut
    split
    · simp
    · split <;> simp

theorem index_eq (c : UInt8) (l : List UInt8) : index (c :: l) [c] = 0 := by simp [index, List.isPrefixOf]
theorem index_ne {b c : UInt8} (h : b ≠ c) (l : List UInt8) : index (b :: l) [c] = if index l [c] == -1 then -1 else index l [c] + 1 := by
  rw [index]
  simp [List.isPrefixOf, Ne.symm h]

theorem split_cut (c : UInt8) : ∀ s : List UInt8, splitK [c] 0 (count s [c]) s = cut c s
  | [] => by rw [count_miss (by simp [index])]; rfl
  | b :: l => by
    by_cases h : b = c
    · subst h
      rw [count_cons_eq, Nat.add_comm, splitK, index_eq, if_neg (by decide)]
      simp only [cut, if_true, List.length_singleton, Int.toNat_zero, Nat.zero_add, Nat.add_zero, List.take_zero, List.drop_succ_cons, List.drop_zero]
      rw [split_cut b l]
    · have ih := split_cut c l
      rw [count_cons_ne b c l h]
      simp only [cut, if_neg h]
      rw [← ih]
      cases hk : count l [c] with
      | zero => rfl
      | succ k =>
        have hi : index l [c] ≠ -1 := fun e => by rw [count_miss e] at hk; cases hk
        have hge := index_ge l [c]
        obtain ⟨i, hi⟩ : ∃ i : Nat, index l [c] = i := ⟨(index l [c]).toNat, by omega⟩
        have h1 : index (b :: l) [c] = ((i + 1 : Nat) : Int) := by
          rw [index_ne h, if_neg (by rw [hi]; intro e; have := beq_iff_eq.1 e; omega), hi]; omega
        have m1 : ¬ (index (b :: l) [c] == -1) = true := fun e => by have := beq_iff_eq.1 e; omega
        have m2 : ¬ (index l [c] == -1) = true := fun e => by have := beq_iff_eq.1 e; omega
        rw [splitK, if_neg m1, splitK, if_neg m2, h1, hi]
        simp only [Int.toNat_natCast, Nat.add_zero, List.take_succ_cons, List.length_singleton, List.drop_succ_cons]

theorem tail_cons (sep x : List UInt8) (r : List (List UInt8)) : joinTail sep (x :: r) = sep ++ (x ++ joinTail sep r) := by
  simp [joinTail]

theorem join_cut (c : UInt8) : ∀ s : List UInt8, join (cut c s) [c] = s
  | [] => by simp [cut, join_one]
  | b :: l => by
    have ih := join_cut c l
    by_cases h : b = c
    · subst h
      simp only [cut, if_true]
      rw [join_cons]
      cases hx : cut b l with
      | nil => exact absurd hx (cut_ne b l)
      | cons x r =>
        rw [hx, join_cons] at ih
        rw [tail_cons, ih]; rfl
    · simp only [cut, if_neg h]
      cases hx : cut c l with
      | nil => exact absurd hx (cut_ne c l)
      | cons x r =>
        rw [hx, join_cons] at ih
        simp only
        rw [join_cons, List.cons_append, ih]

theorem cut_word {c : UInt8} : ∀ {x : List UInt8} (t : List UInt8), c ∉ x → cut c (x ++ c :: t) = x :: cut c t
  | [], t, _ => by simp [cut]
  | b :: x, t, h => by
    have hb : b ≠ c := fun e => h (by simp [e])
    have hx : c ∉ x := fun e => h (by simp [e])
    rw [List.cons_append, cut, if_neg hb, cut_word t hx]

theorem cut_last {c : UInt8} : ∀ {x : List UInt8}, c ∉ x → cut c x = [x]
  | [], _ => rfl
  | b :: x, h => by
    have hb : b ≠ c := fun e => h (by simp [e])
    have hx : c ∉ x := fun e => h (by simp [e])
    rw [cut, if_neg hb, cut_last hx]

theorem cut_join {c : UInt8} : ∀ (x : List UInt8) (r : List (List UInt8)), c ∉ x → (∀ y ∈ r, c ∉ y) → cut c (join (x :: r) [c]) = x :: r
  | x, [], hx, _ => by rw [join_one, cut_last hx]
  | x, y :: r, hx, hr => by
    have ih := cut_join y r (hr y (by simp)) (fun z hz => hr z (by simp [hz]))
    rw [join_cons] at ih
    rw [join_cons, tail_cons]
    show cut c (x ++ c :: (y ++ joinTail [c] r)) = _
    rw [cut_word _ hx, ih]

theorem digit_at (d : Nat) (h : d < 10) : digitVal (UInt8.ofNat (48 + d)) = some d := by
  have e : (UInt8.ofNat (48 + d)).toNat = 48 + d := by simp [UInt8.toNat_ofNat']; omega
  unfold digitVal
  rw [e, if_pos (by omega)]
  congr 1; omega

theorem decFrom_append : ∀ (l : List UInt8) (acc n : Nat) (r : List UInt8), decFrom acc l = some n → decFrom acc (l ++ r) = decFrom n r
  | [], acc, n, r, h => by simp [decFrom] at h; subst h; rfl
  | b :: l, acc, n, r, h => by
    simp only [decFrom, List.cons_append] at h ⊢
    cases hd : digitVal b with
    | none => simp [hd] at h
    | some d => simp only [hd] at h ⊢; exact decFrom_append l _ n r h

theorem dec_digits (n : Nat) : decFrom 0 (decDigits n) = some n := by
  induction n using Nat.strongRecOn with
  | ind n ih =>
    by_cases h : n < 10
    · rw [decDigits_one h]
      simp only [decFrom, digit_at n h]
      congr 1; omega
    · rw [decDigits, dif_neg h, decFrom_append _ _ _ _ (ih (n / 10) (by omega))]
      have hd := digit_at (n % 10) (by omega)
      simp only [decFrom, hd]
      congr 1; omega

theorem digits_mem (n : Nat) {b : UInt8} (h : b ∈ decDigits n) : 48 ≤ b.toNat ∧ b.toNat ≤ 57 := by
  obtain ⟨k, hk⟩ := List.getElem?_of_mem h
  obtain ⟨d, hd⟩ := digit_of_decFrom _ _ _ (dec_digits n) k b hk
  unfold digitVal at hd
  split at hd
  · assumption
  · cases hd

theorem digits_blank (n : Nat) : (32 : UInt8) ∉ decDigits n := fun h => by
  have := digits_mem n h
  simp at this

theorem digits_ne (n : Nat) : decDigits n ≠ [] := by
  have := nDigits_pos n
  intro e
  have h2 := decDigits_length n
  rw [e] at h2
  simp at h2; omega

theorem digits_short {n : Nat} (h : n ≤ 99999) : (decDigits n).length ≤ 5 := by
  rw [decDigits_length]
  by_cases h1 : n < 10
  · rw [nDigits_small h1]; omega
  rw [nDigits_big h1]
  by_cases h2 : n / 10 < 10
  · rw [nDigits_small h2]; omega
  rw [nDigits_big h2]
  by_cases h3 : n / 10 / 10 < 10
  · rw [nDigits_small h3]; omega
  rw [nDigits_big h3]
  by_cases h4 : n / 10 / 10 / 10 < 10
  · rw [nDigits_small h4]; omega
  rw [nDigits_big h4, nDigits_small (by omega)]
  omega

theorem atoi_digits {n : Nat} (h : n ≤ 99999) : atoiAll (decDigits n) = .ok (n : Int) := by
  rw [atoiAll_short _ (by have := digits_short h; omega)]
  cases hd : decDigits n with
  | nil => exact absurd hd (digits_ne n)
  | cons b r =>
    have hb : 48 ≤ b.toNat ∧ b.toNat ≤ 57 := digits_mem n (by rw [hd]; simp)
    have h45 : ¬ (b == 45) = true := fun e => by have := eq_of_beq e; subst this; simp at hb
    have h43 : ¬ (b == 43) = true := fun e => by have := eq_of_beq e; subst this; simp at hb
    rw [show atoi (b :: r) = (decNat (b :: r)).map fun (m : Nat) => (m : Int) by simp only [atoi]; rw [if_neg h45, if_neg h43], ← hd]
    unfold decNat
    rw [if_neg (by rw [hd]; simp), dec_digits]
    rfl

theorem digits_inj {m n : Nat} (h : decDigits m = decDigits n) : m = n := by
  have h1 := dec_digits m
  rw [h, dec_digits n] at h1
  exact (Option.some.inj h1).symm

theorem itoa_nat (n : Nat) : itoa (n : Int) = decDigits n := by
  unfold itoa
  rw [if_neg (by omega)]
  rfl

def textOf (ns : List Nat) : List UInt8 := join (ns.map decDigits) [32]

theorem cut_text {ns : List Nat} (h : ns ≠ []) : cut 32 (textOf ns) = ns.map decDigits := by
  cases ns with
  | nil => exact absurd rfl h
  | cons n r => exact cut_join _ _ (digits_blank n) (fun y hy => by
      obtain ⟨m, _, rfl⟩ := List.mem_map.1 hy
      exact digits_blank m)

theorem text_of_cut {s : List UInt8} {ns : List Nat} (h : cut 32 s = ns.map decDigits) : textOf ns = s := by
  unfold textOf
  rw [← h, join_cut]

theorem cut_length (c : UInt8) : ∀ s : List UInt8, (cut c s).length ≤ s.length + 1
  | [] => by simp [cut]
  | b :: l => by
    have := cut_length c l
    unfold cut
    split
    · simp; omega
    · cases h : cut c l with
      | nil => simp
      | cons x r => rw [h] at this; simp at this ⊢; omega

theorem tail_length (sep : List UInt8) : ∀ (r : List (List UInt8)) (k : Nat), (∀ x ∈ r, x.length ≤ k) → (joinTail sep r).length ≤ r.length * (sep.length + k)
  | [], _, _ => by simp [joinTail]
  | x :: r, k, h => by
    have ih := tail_length sep r k (fun y hy => h y (by simp [hy]))
    have hx := h x (by simp)
    rw [tail_cons]
    simp only [List.length_append, List.length_cons]
    rw [Nat.add_mul]
    omega

theorem text_length {ns : List Nat} (h : ∀ n ∈ ns, n ≤ 99999) : (textOf ns).length ≤ ns.length * 6 := by
  unfold textOf
  cases ns with
  | nil => simp [join, List.intercalate]
  | cons n r =>
    have h1 := digits_short (h n (by simp))
    have h2 := tail_length [32] (r.map decDigits) 5 (fun x hx => by
      obtain ⟨m, hm, rfl⟩ := List.mem_map.1 hx
      exact digits_short (h m (by simp [hm])))
    rw [List.map_cons, join_cons]
    simp only [List.length_append, List.length_map, List.length_cons, List.length_nil] at h2 ⊢
    omega

def Good (x : List UInt8) : Prop := ∃ n, n ≤ 99999 ∧ x = decDigits n
end Go.Proofs.YtcedalofcekdkaaGreatDoor
end

section
namespace Go.Proofs.YtcedalofcekdkaaGreatDoor
open Go.RowKit Go.Lib Go.Shelf

theorem indexOne (s : ByteArray) (c : UInt8) (w : World) :
    Calls Tryz.prog 181 #[.string s, .string ⟨#[c]⟩] w fun e w' => e = .returned (.int .i64 (Lib.indexByte s.data.toList c)) ∧ w' = w := Any.strings_Index_one Tryz.lays143 s c w
theorem countOne (s : ByteArray) (c : UInt8) (w : World) :
    Calls Tryz.prog 180 #[.string s, .string ⟨#[c]⟩] w fun e w' => e = .returned (.int .i64 (Lib.countByte s.data.toList c)) ∧ w' = w := Any.strings_Count_one Tryz.lays138 s c w
theorem itoaAt (n : Int) (h0 : -9223372036854775808 ≤ n) (h1 : n ≤ 9223372036854775807) (w : World) (htab : Lib.TabIs Tryz.prog w "internal/strconv.uint64pow10" .u64 Lib.pow10Tab) :
    Calls Tryz.prog 44 #[.int .i64 n] w fun e w' => e = .returned (.string ⟨(Lib.itoa n).toArray⟩) ∧ ∃ k os, w' = Go.Sort.grow (w.drewN k) os := Any.strconv_Itoa Tryz.laysM171 n h0 h1 w htab
theorem joinAt (bk o c : Nat) (xs : List ByteArray) (sep : ByteArray) (w : World) (hcells : ∀ (j : Nat) x, xs[j]? = some x → w.cell? ⟨bk, o + j, none⟩ = some (.string x)) (hbk : bk < w.heap.size) (hN : xs.length ≤ 140737488355328) (hcap : xs.length ≤ c)
    (hlen : (Lib.join (xs.map (·.data.toList)) sep.data.toList).length ≤ 140737488355328) :
    Calls Tryz.prog 45 #[.slice (some ⟨bk, o, none⟩) xs.length c, .string sep] w fun e w' => e = .returned (.string ⟨(Lib.join (xs.map (·.data.toList)) sep.data.toList).toArray⟩) ∧ Below w.heap.size w w' := Any.strings_Join Tryz.lays156 Tryz.Builder_Extra_156 bk o c xs sep w hcells hbk hN hcap hlen

structure TextLaid (w : World) : Prop where
  tab : Lib.TabIs Tryz.prog w "internal/strconv.uint64pow10" .u64 Lib.pow10Tab
  es : ∃ ev, w.cell? ⟨0, 0, none⟩ = some ev ∧ (ev = .nilIface ∨ ∃ te pe, ev = .iface te pe)
  er : ∃ ev, w.cell? ⟨1, 0, none⟩ = some ev ∧ (ev = .nilIface ∨ ∃ te pe, ev = .iface te pe)

theorem TextLaid.below {w w' : World} (h : TextLaid w) (hb : Below w.heap.size w w') : TextLaid w' := by
  obtain ⟨h1, ⟨e2, h2, h2'⟩, ⟨e3, h3, h3'⟩⟩ := h
  refine ⟨(Lib.tabBelow_of_tabIs h1) w' hb, ⟨e2, ?_, h2'⟩, ⟨e3, ?_, h3'⟩⟩
  · rw [hb.cell (p := ⟨0, 0, none⟩) (World.block_lt_of_cell? _ _ h2)]; exact h2
  · rw [hb.cell (p := ⟨1, 0, none⟩) (World.block_lt_of_cell? _ _ h3)]; exact h3

abbrev blank : ByteArray := ⟨#[32]⟩

def wordsB (s : ByteArray) : List ByteArray := Lib.splitB blank 0 (Lib.countB s blank) s

theorem words_cut (s : ByteArray) : (wordsB s).map (·.data.toList) = cut 32 s.data.toList := by
  unfold wordsB
  rw [Lib.splitB_data]
  exact split_cut 32 s.data.toList

theorem words_length (s : ByteArray) : (wordsB s).length = Lib.countB s blank + 1 := Lib.splitB_all blank (by decide) 0 _ s rfl

set_option maxHeartbeats 1000000 in
theorem split_calls (s : ByteArray) (w : World) (hs : s.size < 4294967281) :
    Calls Tryz.prog 42 #[.string s, .string blank] w fun e w' =>
      e = .returned (.slice (some ⟨w.heap.size, 0, none⟩) (wordsB s).length (wordsB s).length) ∧ w' = w.alloc (.cells ((wordsB s).map Value.string).toArray 9) := by
  have hle := Lib.countB_le blank (by decide) s.size s (Nat.le_refl _)
  have hlen := words_length s
  have c := Any.strings_genSplit_core Tryz.lays221 (by kernel_rfl) s blank 0 (-1) (Lib.countB s blank + 1) w hs (by decide) (Nat.zero_le _)
    (fun x cs _ => (indexOne x 32 _).mono fun e w' h => by
      rw [← Lib.index_one] at h; exact h)
    ((countOne s 32 w).mono fun e w' ⟨he, hw⟩ => ⟨by rw [he]; show _ = Ending.returned (Value.int .i64 ((Lib.count s.data.toList [32] : Nat) : Int)); rw [Lib.count_one]; rfl, hw⟩)
    (by decide) (by decide) (by rw [if_pos (by decide)]; omega)
  rw [Nat.add_sub_cancel] at c
  have e2 : Lib.cellsOf (wordsB s) (Lib.countB s blank + 1) = ((wordsB s).map Value.string).toArray := by rw [← hlen]; exact Lib.cellsOf_full _
  rw [show Lib.splitB blank 0 (Lib.countB s blank) s = wordsB s from rfl, e2, hlen] at c
  rw [hlen]
  go_enter Tryz.func42, Tryz.ntmps42
  go_wp2_with (first | (go_at_call 103; refine c.mono ?_; rintro e w' ⟨rfl, hw⟩; rw [hw]))
  go_ret
  exact ⟨rfl, rfl⟩

theorem itoa_calls {n : Nat} (hn : n ≤ 99999) {w : World} (hL : TextLaid w) :
    Calls Tryz.prog 44 #[.int .i64 n] w fun e w' => e = .returned (.string ⟨(Lib.decDigits n).toArray⟩) ∧ Below w.heap.size w w' := by
  refine (itoaAt (n : Int) (by omega) (by omega) w hL.tab).mono ?_
  rintro e w' ⟨rfl, k, os, rfl⟩
  exact ⟨by rw [itoa_nat], Lib.below_grow _ w (Nat.le_refl _) k os⟩

theorem itoa_calls_int (n : Int) (h0 : -9223372036854775808 ≤ n) (h1 : n ≤ 9223372036854775807) {w : World} (hL : TextLaid w) :
    Calls Tryz.prog 44 #[.int .i64 n] w fun e w' => e = .returned (.string ⟨(Lib.itoa n).toArray⟩) ∧ Below w.heap.size w w' := by
  refine (itoaAt n h0 h1 w hL.tab).mono ?_
  rintro e w' ⟨rfl, k, os, rfl⟩
  exact ⟨rfl, Lib.below_grow _ w (Nat.le_refl _) k os⟩

theorem atoi_calls (s : ByteArray) (hs : s.size ≤ 10000) {w : World} (hL : TextLaid w) :
    Calls Tryz.prog 43 #[.string s] w fun e w' => Below w.heap.size w w' ∧
      ((∃ v, Lib.atoiAll s.data.toList = .ok v ∧ e = .returned (.tuple #[.int .i64 v, .nilIface])) ∨
       ((∀ v, Lib.atoiAll s.data.toList ≠ .ok v) ∧ ∃ n N, e = .returned (.tuple #[.int .i64 n, .iface 241 (.pointer (some ⟨N, 0, none⟩))]))) := by
  obtain ⟨ev, hv, hev⟩ := hL.es
  obtain ⟨er, hr, her⟩ := hL.er
  cases h : Lib.atoiAll s.data.toList
  · rename_i v
    refine (show Calls Tryz.prog 43 _ w _ from Any.strconv_Atoi_ok Tryz.laysC172 s (by omega) v h w).mono ?_
    rintro e w' ⟨rfl, hw⟩
    refine ⟨?_, .inl ⟨v, rfl, rfl⟩⟩
    rcases hw with rfl | ⟨t, rfl⟩
    · exact Below.refl _ _
    · exact Lib.bytesWorld_below w _ t
  · refine (show Calls Tryz.prog 43 _ w _ from Any.strconv_Atoi_syntax Tryz.laysC172 s (by omega) h ev w hv hev).mono ?_
    rintro e w' ⟨N, rfl, _, _, hb⟩
    exact ⟨hb, .inr ⟨fun v e => (by cases e), 0, N, rfl⟩⟩
  · refine (show Calls Tryz.prog 43 _ w _ from Any.strconv_Atoi_range Tryz.laysC172 s (by omega) h er w hr her).mono ?_
    rintro e w' ⟨N, rfl, _, _, hb⟩
    exact ⟨hb, .inr ⟨fun v e => (by cases e), _, N, rfl⟩⟩
end Go.Proofs.YtcedalofcekdkaaGreatDoor
end
