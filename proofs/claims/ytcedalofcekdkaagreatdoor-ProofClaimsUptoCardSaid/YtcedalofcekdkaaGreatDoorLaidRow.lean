/- What the listed variables give. -/
import Derived.Test.YtcedalofcekdkaaGreatDoorHeadOK
import Derived.Test.YtcedalofcekdkaaGreatDoorRows
import Derived.LaidMore
import Derived.OpenShut
import Derived.MakeChecks
import Derived.LaidHandle
set_option linter.unusedSimpArgs false
set_option linter.unusedVariables false
namespace Go.Proofs.YtcedalofcekdkaaGreatDoor
open Go.Proofs.YtcedalofcekdkaaGreatDoor.Ex (space const1 AV)

theorem laid_mem {P : Program} {w : World} : ∀ {l : List (String × DataW Unit)} {ps : List MemPlace} {n : String} {d : DataW Unit}, DataW.LaidVars P w l ps → (n, d) ∈ l →
    ∃ g t cs fuel p, P.globalNamed n = some g ∧ (P.globals[g]?).map (·.type) = some t ∧ w.var? P n = some cs ∧ DataW.trod (fun _ => ()) P w 0 (fun _ => true) false fuel t cs.toList = some (d, p)
  | (n0, d0) :: r, ps, n, d, h, hm => by
    obtain ⟨g, t, cs, fuel, p, q, h1, h2, h3, h4, h5, _⟩ := h
    rcases List.mem_cons.1 hm with e | e
    · cases e; exact ⟨g, t, cs, fuel, p, h1, h2, h3, h4⟩
    · exact laid_mem h5 e

theorem var_heap {P : Program} {w : World} {n : String} {g : Nat} {cs : Array Value} (hg : P.globalNamed n = some g) (h : w.var? P n = some cs) : ∃ ty fz, w.heap[g]? = some (.cells cs ty fz) := by
  simp only [World.var?, hg, Option.bind_some] at h
  split at h
  · simp only [Option.some.injEq] at h; subst h; rename_i h; exact ⟨_, _, h⟩
  · cases h

def conv : DataW Unit → Option AV
  | .lit (.int k n) => some (.int k n)
  | _ => none

def spaceD : List (DataW Unit) := match (Rows.laid_strings_asciiSpace : DataW Unit) with | .agg l => l | _ => []
theorem spaceD_eq : (Rows.laid_strings_asciiSpace : DataW Unit) = .agg spaceD := by kernel_rfl
theorem space_conv : spaceD.map conv = space.map some := by kernel_rfl
theorem gSpace : Tryz.prog.globalNamed "strings.asciiSpace" = some 4 := by kernel_rfl
theorem tSpace : (Tryz.prog.globals[4]?).map (·.type) = some 405 := by kernel_rfl
theorem gErr : Tryz.prog.globalNamed "strconv.ErrSyntax" = some 0 := by kernel_rfl
theorem tErr : (Tryz.prog.globals[0]?).map (·.type) = some 89 := by kernel_rfl
theorem one5 : Tryz.prog.cellsOf 5 = 1 := by kernel_rfl

theorem iface_cell {H : Type} {enc : TypeId × Value → H} {P : Program} {w : World} {base : Nat} {sp : Nat → Bool} {held : Bool} {f t : Nat} {ms : Array (String × TypeId)} {cs : List Value} {x : DataW H × List MemPlace}
    (ht : P.underlying t = some (.interface ms)) (h : DataW.trod enc P w base sp held f t cs = some x) : ∃ y, cs = [y] ∧ y.oneCell' = true := by
  cases f with
  | zero => simp [DataW.trod] at h
  | succ m =>
    unfold DataW.trod at h
    rw [ht] at h
    split at h <;> simp_all [Value.oneCell']

theorem of_laid {W : World} (h : laidMetH Tryz.prog Rows.proofSealRow.laid W) : Go.Proofs.YtcedalofcekdkaaGreatDoor.Ex.Laid 5 W := by
  rw [MakeChecks.laidMetH_plain _ _ _ (by kernel_rfl)] at h
  obtain ⟨ps, hv, _, _⟩ := h
  have m4 : ("strings.asciiSpace", (Rows.laid_strings_asciiSpace : DataW Unit)) ∈ Rows.proofSealRow.laid := .tail _ (.tail _ (.tail _ (.tail _ (.tail _ (.tail _ (.tail _ (.head _)))))))
  have m0 : ("strconv.ErrSyntax", (Rows.laid_strconv_ErrSyntax : DataW Unit)) ∈ Rows.proofSealRow.laid := .tail _ (.tail _ (.tail _ (.tail _ (.tail _ (.head _)))))
  obtain ⟨g4, t4, c4, f4, p4, hg4, ht4, hc4, hd4⟩ := laid_mem hv m4
  obtain ⟨g0, t0, c0, f0, p0, hg0, ht0, hc0, hd0⟩ := laid_mem hv m0
  obtain rfl := Option.some.inj (gSpace.symm.trans hg4)
  obtain rfl := Option.some.inj (gErr.symm.trans hg0)
  obtain rfl := Option.some.inj (tSpace.symm.trans ht4)
  obtain rfl := Option.some.inj (tErr.symm.trans ht0)
  obtain ⟨ty4, fz4, hh4⟩ := var_heap hg4 hc4
  obtain ⟨ty0, fz0, hh0⟩ := var_heap hg0 hc0
  refine ⟨?_, by decide, ⟨c4, ty4, fz4, hh4, fun i v hi => ?_⟩, ?_⟩
  · have := (Array.getElem?_eq_some_iff.1 hh4).1
    omega
  · obtain ⟨xs, m1, rfl, hx, hlen, hn, hel⟩ := DataW.trod_array Tryz.underlying405 hd4
    rw [spaceD_eq] at hx
    simp only [Prod.mk.injEq, DataW.agg.injEq] at hx
    have h1 : (spaceD.map conv)[i]? = some (some v) := by rw [space_conv, List.getElem?_map, hi]; rfl
    rw [hx.1, List.getElem?_map, List.getElem?_map] at h1
    have hil : i < xs.length := by
      rcases Nat.lt_or_ge i xs.length with h | h
      · exact h
      · rw [List.getElem?_eq_none h] at h1; cases h1
    have h2 := hel i (by rw [← hn]; exact hil)
    rw [List.getElem?_eq_getElem hil] at h1 h2
    rw [one5, Nat.mul_one] at h2
    simp only [Option.map_some, Option.some.injEq] at h1
    have h2 : DataW.trod (fun _ => ()) Tryz.prog W 0 (fun _ => true) false m1 5 ((c4.toList.drop i).take 1) = some xs[i] := h2
    obtain ⟨k, hk, hk2, _⟩ := DataW.trod_int Tryz.underlying5 h2
    rw [hk2] at h1
    have hv2 : v = .int .u8 k := by
      have : conv (.lit (.int .u8 k)) = some v := h1
      simpa [conv] using this.symm
    subst hv2
    refine ⟨.int .u8 k, ?_, rfl⟩
    have h3 : ((c4.toList.drop i).take 1)[0]? = some (.int .u8 k) := by rw [hk]; rfl
    rw [List.getElem?_take, if_pos (by decide), List.getElem?_drop, Nat.add_zero, Array.getElem?_toList] at h3
    exact h3
  · obtain ⟨x, hx, hx1⟩ := iface_cell Tryz.underlying89 hd0
    refine ⟨c0, ty0, fz0, x, hh0, ?_, hx1⟩
    rw [← Array.getElem?_toList, hx]
    rfl
end Go.Proofs.YtcedalofcekdkaaGreatDoor
