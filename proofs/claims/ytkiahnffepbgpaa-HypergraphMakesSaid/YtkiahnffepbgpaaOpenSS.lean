/-
  A slice of slices of ints, opened to what the walks ask.
-/
import Derived.Test.YtkiahnffepbgpaaOpen
import Derived.Test.YtkiahnffepbgpaaOfP
import Derived.Deep.Matrix
namespace Go.Proofs.Ytkiahnffepbgpaa
open Go.ChangeShapes Go.WideShapes Go.ChangeAt Go.RowKit Go.Joins

section
variable {H : Type} {enc : TypeId × Value → H} {P : Program} {w : World} {base : Nat} {held : Bool}
theorem open_xss {t e q : TypeId} {fuel : Nat} {v : Value} {x : DataW H × List MemPlace} (ht : P.underlying t = some (.slice e)) (he : P.underlying e = some (.slice q)) (hq : P.underlying q = some (.int .i64)) (ce : P.cellsOf e = 1) (cq : P.cellsOf q = 1)
    (h : DataW.trod enc P w base (fun _ => true) held fuel t [v] = some x) : ∃ A len cap xss, v = .slice A len cap ∧ Xss w w.heap.size A len xss ∧ len ≤ cap := by
  rcases Go.Deep.open_int_rows ht he hq ce cq h with ⟨hcs, _⟩ | ⟨a, len, cap, A, L, C, Z, hcs, _, hl, hm, _, hr⟩
  · cases hcs
    exact ⟨none, 0, 0, [], rfl, ⟨⟨rfl, by omega⟩, fun r hr => by omega⟩, Nat.le_refl _⟩
  · cases hcs
    unfold maxLen at hm
    refine ⟨some a, len, cap, (List.range len).map fun r => (Z r).take (L r), rfl, ⟨⟨by simp, by omega⟩, fun r hrl => ?_⟩, hl⟩
    obtain ⟨h1, h2, h3, h4, h5, h6, h7⟩ := hr r (by omega)
    have er : rowAt ((List.range len).map fun r => (Z r).take (L r)) r = (Z r).take (L r) := by simp [rowAt, List.getD, hrl]
    unfold maxLen at h3
    have hlen : ((Z r).take (L r)).length = L r := by simp; omega
    refine ⟨a, A r, L r, C r, rfl, ?_, h1, ?_⟩
    · have := block_lt_of_cell h1
      rwa [block_of_add] at this
    · rw [er]
      refine ⟨⟨by rw [I64_length, hlen]; omega, fun hn => ?_⟩, ⟨hlen.symm, by omega⟩, fun y hy => wf_i64 (h5 y (List.mem_of_mem_take hy))⟩
      cases hA : A r with
      | none => have := h6 hA; omega
      | some a' =>
        obtain ⟨_, hc⟩ := h7 a' hA
        refine ⟨a', rfl, ?_, fun j u hu => ?_⟩
        · have := block_lt_of_cell (hc 0 (by omega))
          rwa [block_of_add] at this
        · have hj : j < L r := by
            have := (List.getElem?_eq_some_iff.1 hu).1
            rw [I64_length, hlen] at this; exact this
          have e1 := hc j (by omega)
          rw [e1]
          have e2 := I64_get hu
          rw [e2, inth_eq (by rw [hlen]; exact hj)]
          simp only [List.getElem_take, List.getD, List.getElem?_eq_getElem (show j < (Z r).length by omega), Option.getD_some]
end
end Go.Proofs.Ytkiahnffepbgpaa
