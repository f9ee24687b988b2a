/-
  What the row's condition on the library's table gives a walk.
-/
import Derived.Test.YtjofdlafblpclaaDoorRows
import Derived.Test.YtjofdlafblpclaaDoorCxT
import Derived.Test.YtjofdlafblpclaaDoorOpen
import Derived.LaidMore
import Derived.Lay
import Derived.SevenTiedAt
import Derived.Stop.Joined
namespace Go.Proofs.YtjofdlafblpclaaDoor
open Go.ChangeShapes Go.WideShapes Go.ChangeAt Go.RowKit Go.Joins

theorem tab_data : (tabTZ.map fun n : Nat => (DataW.lit (.int .u8 (n : Int)) : DataW Unit)) = match (Rows.laid_math_bits_deBruijn32tab : DataW Unit) with | .agg l => l | _ => [] := by kernel_rfl
theorem gtab_of_laid {W : World} (h : laidMetH Tryd.prog [("math/bits.deBruijn32tab", Rows.laid_math_bits_deBruijn32tab)] W) : GTab W := by
  rw [MakeChecks.laidMetH_plain _ _ _ (by kernel_rfl)] at h
  obtain ⟨ps, ⟨g, t, cs, fuel, p, q, hg, ht, hv, hd, _, _⟩, _, _⟩ := h
  obtain rfl := Option.some.inj ((show Tryd.prog.globalNamed "math/bits.deBruijn32tab" = some 0 by kernel_rfl).symm.trans hg)
  obtain rfl := Option.some.inj ((show (Tryd.prog.globals[0]?).map (·.type) = some 90 by kernel_rfl).symm.trans ht)
  obtain ⟨xs, m, _, ex, _, hl, hel⟩ := DataW.trod_array Tryd.underlying90 hd
  have c5 : Tryd.prog.cellsOf 5 = 1 := by kernel_rfl
  have key : ∀ r, r < 32 → W.cell? ⟨0, r, none⟩ = some (.int .u8 (nth tabTZ r : Int)) := by
    intro r hr
    have hE := hel r hr
    rw [c5, Nat.mul_one, List.getElem?_eq_getElem (by omega)] at hE
    obtain ⟨z, e1, e2, _⟩ := DataW.trod_int Tryd.underlying5 hE
    have hlen : tabTZ.length = 32 := rfl
    have e3 : (xs.map (·.1)) = tabTZ.map fun n : Nat => .lit (.int .u8 (n : Int)) := by
      rw [tab_data]
      exact (DataW.agg.inj (Prod.mk.inj ex).1).symm
    have e4 : (xs.map (·.1))[r]? = (tabTZ.map fun n : Nat => (DataW.lit (.int .u8 (n : Int)) : DataW Unit))[r]? := by rw [e3]
    rw [List.getElem?_map, List.getElem?_map, List.getElem?_eq_getElem (by omega : r < xs.length), List.getElem?_eq_getElem (by omega : r < tabTZ.length), e2] at e4
    have hz : z = (nth tabTZ r : Int) := by
      simp only [Option.map_some, Option.some.injEq, DataW.lit.injEq, Lit.int.injEq, true_and] at e4
      rw [e4, nth, List.getD, List.getElem?_eq_getElem (by omega : r < tabTZ.length)]; rfl
    rw [World.var?_cell hg hv r, ← hz]
    have : cs.toList[r]? = some (.int .u8 z) := by
      have h0 : ((cs.toList.drop r).take 1)[0]? = some (.int .u8 z) := by rw [e1]; rfl
      simpa using h0
    simpa using this
  refine ⟨?_, key⟩
  have h0 := key 0 (by omega)
  exact block_lt_of_cell h0
end Go.Proofs.YtjofdlafblpclaaDoor
