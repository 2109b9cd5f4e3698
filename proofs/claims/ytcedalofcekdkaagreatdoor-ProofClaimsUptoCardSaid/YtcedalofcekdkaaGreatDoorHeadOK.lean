/- The function head returns true in every world that lays two variables, on every tape. -/
import Derived.Test.YtcedalofcekdkaaGreatDoorPlace
import Derived.Test.YtcedalofcekdkaaGreatDoorHeadA
import Derived.Test.YtcedalofcekdkaaGreatDoorHeadB
import Derived.Test.YtcedalofcekdkaaGreatDoorHeadC
import Derived.Test.YtcedalofcekdkaaGreatDoorHeadD
import Derived.Test.YtcedalofcekdkaaGreatDoorHeadE
import Derived.Test.YtcedalofcekdkaaGreatDoorHeadF
set_option linter.unusedSimpArgs false
set_option linter.unusedVariables false
namespace Go.Proofs.YtcedalofcekdkaaGreatDoor.Ex
set_option maxRecDepth 100000

def seqN : Nat → Code → Code
  | 0, c => c
  | n + 1, c => seqN n c

theorem body_eq : bodyOf Go.Proofs.Tryz.f8 = .seq (seqAt 0 headB) (.seq (seqAt 1 headB) (.seq (seqAt 2 headB) (.seq (seqAt 3 headB) (.seq (seqAt 4 headB) (.seq (seqAt 5 headB) (.seq (seqAt 6 headB) (.seq (seqAt 7 headB) (.seq (seqAt 8 headB)
    (.seq (seqAt 9 headB) (.seq (seqAt 10 headB) (.seq (seqAt 11 headB) (.seq (seqAt 12 headB) (.seq (seqAt 13 headB) (.seq (seqAt 14 headB) (.seq (seqAt 15 headB) (.seq (seqAt 16 headB) (.seq (seqAt 17 headB) (seqFrom 18 headB)))))))))))))))))) := by kernel_rfl

theorem fn8 : E1.fn 8 = some fnNe8 := by kernel_rfl
theorem fn8_res : fnNe8.res = [.tmp 0] := by kernel_rfl
theorem fn8_body : fnNe8.body = bodyOf Go.Proofs.Tryz.f8 := by kernel_rfl
theorem fn8_start : (⟨fnNe8.ntm, .lf, .lf, NG, [], []⟩ : St) = hs0 := by kernel_rfl

variable {B : Nat}

theorem head_does : ∃ s, Does PP E1 B fnNe8.body ⟨fnNe8.ntm, .lf, .lf, NG, [], []⟩ .ret s ∧ s.df = [] ∧ s.tm.get 0 = some (.bool true) := by
  obtain ⟨s, h18, h1, h2⟩ := Does.of_returnsB (B := B) place1 hd18
  refine ⟨s, ?_, h1, h2⟩
  rw [fn8_body, fn8_start, body_eq]
  have p := place1 (B := B)
  exact (Does.of_goesOn p hd0).seq <| (Does.of_goesOn p hd1).seq <| (Does.of_goesOn p hd2).seq <| (Does.of_goesOn p hd3).seq <| (Does.of_goesOn p hd4).seq <| (Does.of_goesOn p hd5).seq <| (Does.of_goesOn p hd6).seq <|
    (Does.of_goesOn p hd7).seq <| (Does.of_goesOn p hd8).seq <| (Does.of_goesOn p hd9).seq <| (Does.of_goesOn p hd10).seq <| (Does.of_goesOn p hd11).seq <| (Does.of_goesOn p hd12).seq <| (Does.of_goesOn p hd13).seq <|
    (Does.of_goesOn p hd14).seq <| (Does.of_goesOn p hd15).seq <| (Does.of_goesOn p hd16).seq <| (Does.of_goesOn p hd17).seq h18

structure Laid (B : Nat) (w : World) : Prop where
  base : B ≤ w.heap.size
  b4 : 4 < B
  spaces : ∃ c ty fz, w.heap[4]? = some (.cells c ty fz) ∧ ∀ (i : Nat) v, space[i]? = some v → ∃ y, c[i]? = some y ∧ const1 y = some v
  err : ∃ c ty fz y, w.heap[0]? = some (.cells c ty fz) ∧ c[0]? = some y ∧ y.oneCell' = true

theorem head_ok {w : World} (h : Laid B w) (cs : List Frame) :
    ∃ w', Leaves PP 8 #[] w cs (.bool true) w' ∧ (∀ r, r < w.heap.size → w'.heap[r]? = w.heap[r]?) ∧ w.heap.size ≤ w'.heap.size ∧ w'.os = w.os ∧ w'.tape = w.tape ∧ w'.output = w.output := by
  obtain ⟨c4, ty4, fz4, h4, hc4⟩ := h.spaces
  obtain ⟨c0, ty0, fz0, y0, h0, hc0, hy0⟩ := h.err
  have hB := h.b4
  have h64 : NG = 64 := rfl
  let ρ : Ren := { loc := fun g m => if g < NG ∧ m = 0 then some ⟨g, 0, 0⟩ else none, tok := fun _ => y0 }
  have hloc : ∀ g m L, ρ.loc g m = some L → g < NG ∧ m = 0 := by
    intro g m L hL
    simp only [ρ] at hL
    by_cases c : g < NG ∧ m = 0
    · exact c
    · rw [if_neg c] at hL; cases hL
  have hh : HRs E1 B ρ .bare w := by
    refine ⟨fun g m L hL => ?_, fun _ => hy0, Nat.le_refl _, h.base, fun g m L hg hL => ?_, fun g hg => ⟨0, by simp [ρ, hg]⟩, fun g cs hg hcs => ?_, fun g o hg => by simp [St.bare] at hg, fun g k o p hg => by simp [St.bare] at hg⟩
    · obtain ⟨a, b⟩ := hloc g m L hL
      show g < NG ∧ m < NG
      omega
    · obtain ⟨a, _⟩ := hloc g m L hL; omega
    · have hcs : globT g = some cs := hcs
      unfold globT at hcs
      rcases cond_some hcs with ⟨e, h1⟩ | ⟨_, h1⟩
      · have := Nat.eq_of_beq_eq_true e; subst this
        have e2 : cs = space := by simpa using h1.symm
        subst e2
        refine ⟨c4, ty4, fz4, h4, hB, fun i v e => ?_⟩
        obtain ⟨y, hy, hv⟩ := hc4 i v e
        exact ⟨y, hy, const1_ok hv⟩
      · rcases cond_some h1 with ⟨e, h2⟩ | ⟨_, h2⟩
        · have := Nat.eq_of_beq_eq_true e; subst this
          have e2 : cs = [.tok 0] := by simpa using h2.symm
          subst e2
          refine ⟨c0, ty0, fz0, h0, by omega, fun i v e => ?_⟩
          cases i with
          | zero => simp at e; subst e; exact ⟨y0, hc0, .tok (ρ := ρ) 0⟩
          | succ i => simp at e
        · cases h2
  obtain ⟨s, hd, h1, h2⟩ := head_does (B := B)
  obtain ⟨w', a1, _, a3, a4, a5, a6, a7⟩ := call_ok place1 (glob_plain summ1) fn8 fn8_res hd h1 h2 hh cs
  exact ⟨w', a1, a3, a4, a5, a6, a7⟩

end Go.Proofs.YtcedalofcekdkaaGreatDoor.Ex
