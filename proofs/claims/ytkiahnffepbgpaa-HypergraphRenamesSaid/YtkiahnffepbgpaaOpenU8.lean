/-
  A slice of bytes, opened to what the walks ask.
-/
import Derived.Test.YtkiahnffepbgpaaOpen
import Derived.Test.YtkiahnffepbgpaaLawRen
namespace Go.Proofs.Ytkiahnffepbgpaa
open Go.ChangeShapes Go.WideShapes Go.ChangeAt Go.RowKit Go.Joins

section
variable {H : Type} {enc : TypeId × Value → H} {P : Program} {w : World} {base : Nat} {spare : Nat → Bool} {held : Bool}
theorem open_us {t e : TypeId} {fuel : Nat} {v : Value} {x : DataW H × List MemPlace} (ht : P.underlying t = some (.slice e)) (he : P.underlying e = some (.int .u8)) (hc : P.cellsOf e = 1)
    (h : DataW.trod enc P w base spare held fuel t [v] = some x) : ∃ A len cap bs, v = .slice A len cap ∧ Us w w.heap.size A len bs ∧ len ≤ cap := by
  rcases open_ints ht he hc h with ⟨hcs, _⟩ | ⟨a, len, cap, zs, hcs, _, hl, hm, hz, _, hcell, hwz⟩
  · cases hcs
    exact ⟨none, 0, 0, [], rfl, ⟨Reads.none_, ⟨rfl, by omega⟩, by simp⟩, Nat.le_refl _⟩
  · cases hcs
    unfold maxLen at hm
    have hlz : len ≤ zs.length := by rw [hz]; split <;> omega
    have hlen : ((zs.take len).map Int.toNat).length = len := by simp; omega
    have hbnd : ∀ z ∈ zs, 0 ≤ z ∧ z ≤ 255 := fun z hz' => by have := bounds_u8 (hwz z hz'); omega
    refine ⟨some a, len, cap, (zs.take len).map Int.toNat, rfl, ⟨⟨by rw [List.length_map, hlen]; omega, fun hn => ⟨a, rfl, ?_, fun j u hu => ?_⟩⟩, ⟨hlen.symm, by omega⟩, fun y hy => ?_⟩, hl⟩
    · have := block_lt_of_cell (hcell 0 (by omega))
      rwa [block_of_add] at this
    · have hj : j < len := by
        have := (List.getElem?_eq_some_iff.1 hu).1
        simp at this; omega
      have h1 := hcell j (by omega)
      rw [h1]
      have hjz : j < zs.length := by omega
      have hb := hbnd _ (List.getElem_mem hjz)
      simp only [List.map_map, List.getElem?_map, List.getElem?_take, hj, if_true, List.getElem?_eq_getElem hjz, Option.map_some] at hu
      rw [← Option.some.inj hu]
      simp only [Function.comp, List.getD, List.getElem?_eq_getElem hjz, Option.getD_some]
      congr 2
      omega
    · rw [List.mem_map] at hy
      obtain ⟨z, hz', rfl⟩ := hy
      have := hbnd z (List.mem_of_mem_take hz')
      omega
end
end Go.Proofs.Ytkiahnffepbgpaa
