/- ProofTexts, walked. -/
import Derived.Test.YtcedalofcekdkaaGreatDoorTextT
import Derived.Test.YtcedalofcekdkaaGreatDoorSealQ
set_option linter.unusedSimpArgs false
set_option linter.unusedVariables false
namespace Go.Proofs.YtcedalofcekdkaaGreatDoor
open Go.RowKit Go.Lib

theorem reads_text {m : Nat} {ns : List Nat} (h : ∀ n ∈ m :: ns, n ≤ 99999) : Reads (wordsB ⟨(textOf (m :: ns)).toArray⟩) (m :: ns) := by
  refine ⟨h, ?_⟩
  rw [words_cut]
  exact cut_text (by simp)

theorem reads_same {s : ByteArray} {ms ns : List Nat} (h1 : Reads (wordsB s) ms) (h2 : Reads (wordsB s) ns) : ms = ns := by
  have h : ms.map Lib.decDigits = ns.map Lib.decDigits := h1.2.symm.trans h2.2
  clear h1 h2
  induction ms generalizing ns with
  | nil =>
    cases ns with
    | nil => rfl
    | cons n ns => simp at h
  | cons m ms ih =>
    cases ns with
    | nil => simp at h
    | cons n ns =>
      simp only [List.map_cons, List.cons.injEq] at h
      rw [digits_inj h.1, ih h.2]

theorem reads_length {s : ByteArray} {ns : List Nat} (h : Reads (wordsB s) ns) : ns.length ≤ s.size + 1 := by
  have h1 : (cut 32 s.data.toList).length = ns.length := by
    rw [← words_cut, h.2, List.length_map]
  have := cut_length 32 s.data.toList
  rw [← Lib.size_eq] at this
  omega

theorem text_back {s : ByteArray} {ns : List Nat} (h : Reads (wordsB s) ns) : (⟨(textOf ns).toArray⟩ : ByteArray) = s := by
  refine bytes_eq ?_
  show textOf ns = _
  exact text_of_cut (by rw [← words_cut]; exact h.2)

theorem seal_val (a : Nat) (h : a < 65536) : wrap64 (a : Int) = ((a : Nat) : Int) := by unfold wrap64; omega

set_option maxHeartbeats 1600000 in
set_option maxRecDepth 1000000 in
theorem proofTexts_walk {w : World} {v0 : Value} {xs : List Nat} (hx : U16Row w v0 xs) (a : Nat) (ha : a < 65536) (t : ByteArray) (ht : t.size ≤ 9223372036854775807) (hL : Go.Proofs.YtcedalofcekdkaaGreatDoor.Ex.Laid 5 w) (hT : TextLaid w) :
    Calls Tryz.prog 4 #[v0, .int .u16 (a : Nat), .string t] w fun e w' => e = .returned (.bool true) ∧ Below w.heap.size w w' := by
  have hx' := hx
  obtain ⟨a0, c0, rfl, -, -⟩ := hx'
  have hsv := seal_val a ha
  go_enter Tryz.func4, Tryz.ntmps4
  go_wp2_with fail
  refine (head_calls hL).mono ?_
  rintro e w1 ⟨rfl, hB1⟩
  by_cases h1 : 200 < xs.length
  · go_wp2_with fail
    go_ret
    exact ⟨rfl, hB1⟩
  by_cases h2 : 2000 < t.size
  · go_wp2_with fail
    go_ret
    exact ⟨rfl, hB1⟩
  go_wp2_with fail
  go_fit (numbers_row (hx.below hB1) (by omega))
  rintro e w2 ⟨g0, k0, rfl, hg0, hg0', ho0, hB2⟩
  have e0 : (numsOf xs).length = xs.length := by simp [numsOf]
  have n0 := numsOf_lt xs
  have hB2' : Below w.heap.size w w2 := hB1.trans (hB2.mono hB1.size)
  clear hx hL
  rw [← e0] at ho0 h1 ⊢
  generalize numsOf xs = ns at *
  have hok : ∀ n ∈ a :: ns, n ≤ 99999 := by
    intro n hn
    rcases List.mem_cons.1 hn with rfl | hn
    · omega
    · obtain ⟨j, hj⟩ := List.getElem?_of_mem hn
      have := n0 j
      rw [List.getD_eq_getElem?_getD, hj] at this
      simp at this; omega
  have hl200 : ns.length ≤ 200 := by omega
  clear n0 e0
  go_wp2_with fail
  generalize hw3 : w2.alloc (Obj.cells #[Value.slice (some ⟨g0, 0, none⟩) ns.length k0, Value.int IntKind.i64 (a : Int)] 30) = w3
  have hB3 : Below w2.heap.size w2 w3 := by rw [← hw3]; exact (Below.refl _ _).alloc (Nat.le_refl _) _
  have hB3' : Below w.heap.size w w3 := hB2'.trans (hB3.mono hB2'.size)
  have hs3 : w3.heap.size = w2.heap.size + 1 := by rw [← hw3]; simp
  have hr3 : IntRow w3 g0 0 ns := fun j x hj => by
    rw [Nat.zero_add, hB3.cell (p := ⟨g0, j, none⟩) hg0']
    have : j < ns.length := (List.getElem?_eq_some_iff.1 hj).1
    rw [ho0.cellAt j (by omega)]
    simp [ints, hj]
  have hp0 : w3.cell? ⟨w2.heap.size, 0, none⟩ = some (.slice (some ⟨g0, 0, none⟩) ns.length k0) := by rw [← hw3, World.cell?_alloc_new]; rfl
  have hp1 : w3.cell? ⟨w2.heap.size, 1, none⟩ = some (.int .i64 (a : Int)) := by rw [← hw3, World.cell?_alloc_new]; rfl
  clear hw3 ho0
  go_fit (text_any a ns g0 0 k0 w3 (by omega) hr3 (by omega) hok (hT.below hB3'))
  rintro e w4 ⟨rfl, hB4⟩
  have hB4' : Below w.heap.size w w4 := hB3'.trans (hB4.mono hB3'.size)
  have hsz : (⟨(textOf (a :: ns)).toArray⟩ : ByteArray).size ≤ 2000 := by
    have := text_length hok
    rw [Lib.size_eq]
    show (textOf (a :: ns)).length ≤ 2000
    simp only [List.length_cons] at this
    omega
  have hrd := reads_text hok
  generalize (⟨(textOf (a :: ns)).toArray⟩ : ByteArray) = s at *
  have hparse := parse_any s (by omega) w4 (hT.below hB4')
  go_wp2_with fail
  go_fit hparse
  rintro e w5 ⟨hB5, hcase⟩
  rcases hcase with ⟨m, ms, g1, o1, c1, hrd1, rfl, hg1, hg1', hr5⟩ | ⟨hno, -⟩
  rotate_left
  · exact absurd hrd (hno _)
  have hsame := reads_same hrd1 hrd
  injection hsame with hm hms
  subst hm; subst hms
  clear hrd hrd1 hparse
  have hB5' : Below w.heap.size w w5 := hB4'.trans (hB5.mono hB4'.size)
  have hq0 : w5.cell? ⟨w2.heap.size, 0, none⟩ = some (.slice (some ⟨g0, 0, none⟩) ms.length k0) := by
    rw [hB5.cell (p := ⟨w2.heap.size, 0, none⟩) (by have := hB4.size; show w2.heap.size < _; omega), hB4.cell (p := ⟨w2.heap.size, 0, none⟩) (by show w2.heap.size < _; omega)]; exact hp0
  have hq1 : w5.cell? ⟨w2.heap.size, 1, none⟩ = some (.int .i64 (m : Int)) := by
    rw [hB5.cell (p := ⟨w2.heap.size, 1, none⟩) (by have := hB4.size; show w2.heap.size < _; omega), hB4.cell (p := ⟨w2.heap.size, 1, none⟩) (by show w2.heap.size < _; omega)]; exact hp1
  have hr5a : IntRow w5 g0 0 ms := (hr3.below (by omega) hB4).below (by have := hB4.size; omega) hB5
  have hp5 : w2.heap.size < w5.heap.size := by have := hB4.size; have := hB5.size; omega
  have hq0 : ∀ O, (w5.alloc O).cell? ⟨w2.heap.size, 0, none⟩ = some (.slice (some ⟨g0, 0, none⟩) ms.length k0) := fun O => by
    rw [World.cell?_alloc_old _ _ _ (Nat.ne_of_lt hp5)]; exact hq0
  have hq1 : ∀ O, (w5.alloc O).cell? ⟨w2.heap.size, 1, none⟩ = some (.int .i64 (m : Int)) := fun O => by
    rw [World.cell?_alloc_old _ _ _ (Nat.ne_of_lt hp5)]; exact hq1
  have b6 : ∀ O, Below w5.heap.size w5 (w5.alloc O) := fun O => (Below.refl _ _).alloc (Nat.le_refl _) _
  have hg05 : g0 < w5.heap.size := by have := hB4.size; have := hB5.size; omega
  have hsm := fun O => same_any m ms g0 0 k0 g1 o1 c1 (w5.alloc O) (by simp; omega) (by simp; omega) (hr5a.below hg05 (b6 O)) (IntRow.below hr5 hg1' (b6 O)) (by omega)
  clear hp0 hp1 hr3 hr5 hr5a
  go_wp2_with fail
  go_fit (hsm _)
  rintro e w6 ⟨rfl, hB6⟩
  have hB6' : Below w.heap.size w w6 := (hB5'.alloc hB5'.size _).trans (hB6.mono (by have := hB5'.size; simp; omega))
  have hparse := parse_any t (by omega) w6 (hT.below hB6')
  clear hq0 hq1 hsm
  go_wp2_with fail
  go_fit hparse
  rintro e w7 ⟨hB7, hcase⟩
  have hB7' : Below w.heap.size w w7 := hB6'.trans (hB7.mono hB6'.size)
  rcases hcase with ⟨n, ns, g2, o2, c2, hrd2, rfl, hg2, hg2', hr7⟩ | ⟨hno, rfl⟩
  · have b8 : ∀ O, Below w7.heap.size w7 (w7.alloc O) := fun O => (Below.refl _ _).alloc (Nat.le_refl _) _
    have hln := reads_length hrd2
    simp only [List.length_cons] at hln
    have htx := fun O => text_any n ns g2 o2 c2 (w7.alloc O) (by simp; omega) (IntRow.below hr7 hg2' (b8 O)) (by omega) hrd2.1 ((hT.below hB7').below (b8 O))
    rw [text_back hrd2] at htx
    go_wp2_with fail
    go_fit (htx _)
    rintro e w8 ⟨rfl, hB8⟩
    go_wp2
    go_ret
    exact ⟨by first | rfl | simp, (hB7'.alloc hB7'.size _).trans (hB8.mono (by have := hB7'.size; simp; omega))⟩
  · go_wp2
    go_ret
    exact ⟨by first | rfl | simp, hB7'.alloc hB7'.size _⟩
end Go.Proofs.YtcedalofcekdkaaGreatDoor
