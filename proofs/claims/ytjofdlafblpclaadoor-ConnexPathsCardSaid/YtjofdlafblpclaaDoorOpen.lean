/-
  Arguments of a law, opened to what the walks ask.
-/
import Derived.Test.YtjofdlafblpclaaDoorBase
import Derived.ProofKit
import Derived.OpenShut
import Derived.ShutString
import Derived.ChangeOld
import Derived.Lib.SmallJoins
namespace Go.Proofs.YtjofdlafblpclaaDoor
open Go.ChangeShapes Go.WideShapes Go.ChangeAt Go.RowKit Go.Joins

theorem own_knob : ownKnob Tryd.prog.godebug = none := by kernel_rfl
theorem laid_out : laidOutB Tryd.prog = true := by kernel_rfl

section
variable {H : Type} {enc : TypeId × Value → H} {P : Program} {w : World} {base : Nat} {spare : Nat → Bool} {held : Bool}
theorem wf_u32 {z : Int} (h : (Lit.int .u32 z).wf = true) : 0 ≤ z ∧ z < 4294967296 := by
  have := bounds_u32 h; omega
theorem wf_i64 {z : Int} (h : (Lit.int .i64 z).wf = true) : -9223372036854775808 ≤ z ∧ z ≤ 9223372036854775807 := by
  have := bounds_i64 h; omega
theorem open_es {t e : TypeId} {fuel : Nat} {v : Value} {x : DataW H × List MemPlace} (ht : P.underlying t = some (.slice e)) (he : P.underlying e = some (.int .u32)) (hc : P.cellsOf e = 1)
    (h : DataW.trod enc P w base spare held fuel t [v] = some x) : ∃ A len cap es, v = .slice A len cap ∧ Es w w.heap.size A len es ∧ len ≤ cap := by
  rcases open_ints ht he hc h with ⟨hcs, _⟩ | ⟨a, len, cap, zs, hcs, _, hl, hm, hz, _, hcell, hwz⟩
  · cases hcs
    exact ⟨none, 0, 0, [], rfl, ⟨Reads.none_, ⟨rfl, by omega⟩, by simp⟩, Nat.le_refl _⟩
  · cases hcs
    unfold maxLen at hm
    have hlz : len ≤ zs.length := by rw [hz]; split <;> omega
    have hlen : ((zs.take len).map Int.toNat).length = len := by simp; omega
    refine ⟨some a, len, cap, (zs.take len).map Int.toNat, rfl, ⟨⟨by rw [U32_length, hlen]; omega, fun hn => ⟨a, rfl, ?_, fun j u hu => ?_⟩⟩, ⟨hlen.symm, by omega⟩, fun y hy => ?_⟩, hl⟩
    · have := block_lt_of_cell (hcell 0 (by omega))
      rwa [block_of_add] at this
    · have hj : j < len := by
        have := (List.getElem?_eq_some_iff.1 hu).1
        rw [U32_length, hlen] at this; exact this
      have h1 := hcell j (by omega)
      rw [h1]
      have h2 := U32_get hu
      rw [h2, nth_eq (by rw [hlen]; exact hj)]
      have h3 := (wf_u32 (hwz (zs[j]'(by omega)) (List.getElem_mem _))).1
      simp only [List.getElem_map, List.getElem_take, List.getD, List.getElem?_eq_getElem (show j < zs.length by omega), Option.getD_some]
      rw [Int.toNat_of_nonneg h3]
    · obtain ⟨z, hz1, rfl⟩ := List.mem_map.1 hy
      have := wf_u32 (hwz z (List.mem_of_mem_take hz1))
      omega
theorem open_xs {t e : TypeId} {fuel : Nat} {v : Value} {x : DataW H × List MemPlace} (ht : P.underlying t = some (.slice e)) (he : P.underlying e = some (.int .i64)) (hc : P.cellsOf e = 1)
    (h : DataW.trod enc P w base spare held fuel t [v] = some x) : ∃ A len cap xs, v = .slice A len cap ∧ Xs w w.heap.size A len xs ∧ len ≤ cap := by
  rcases open_ints ht he hc h with ⟨hcs, _⟩ | ⟨a, len, cap, zs, hcs, _, hl, hm, hz, _, hcell, hwz⟩
  · cases hcs
    exact ⟨none, 0, 0, [], rfl, ⟨Reads.none_, ⟨rfl, by omega⟩, by simp⟩, Nat.le_refl _⟩
  · cases hcs
    unfold maxLen at hm
    have hlz : len ≤ zs.length := by rw [hz]; split <;> omega
    have hlen : (zs.take len).length = len := by simp; omega
    refine ⟨some a, len, cap, zs.take len, rfl, ⟨⟨by rw [I64_length, hlen]; omega, fun hn => ⟨a, rfl, ?_, fun j u hu => ?_⟩⟩, ⟨hlen.symm, by omega⟩, fun y hy => ?_⟩, hl⟩
    · have := block_lt_of_cell (hcell 0 (by omega))
      rwa [block_of_add] at this
    · have hj : j < len := by
        have := (List.getElem?_eq_some_iff.1 hu).1
        rw [I64_length, hlen] at this; exact this
      have h1 := hcell j (by omega)
      rw [h1]
      have h2 := I64_get hu
      rw [h2, inth_eq (by rw [hlen]; exact hj)]
      simp only [List.getElem_take, List.getD, List.getElem?_eq_getElem (show j < zs.length by omega), Option.getD_some]
    · exact wf_i64 (hwz y (List.mem_of_mem_take hy))
end

end Go.Proofs.YtjofdlafblpclaaDoor
