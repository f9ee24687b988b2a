/-
  Maps from int to uint32 of the call's own: as functions.
-/
import Derived.Test.YtjofdlafblpclaaDoorBase
import Derived.Maps.Own
import Derived.Maps.OwnOps
import Derived.Maps.Views
namespace Go.Proofs.YtjofdlafblpclaaDoor
open Go.RowKit Go.Maps Go.ChangeMaps Go.MapKept
open Go.WideElems (Fit rd rg pl rd_val elemAt)
set_option linter.unusedSimpArgs false
set_option linter.unusedVariables false

theorem mapLaw : Keyed Tryd.prog 3 := int_keyed Tryd.underlying3
theorem mapZero (w : World) : (zeroValue 42).run Tryd.prog w = .ok (.int .u32 0) w := by kernel_rfl
/-- Block b is a map of at most m entries that answers f. -/
def MapIs (w : World) (b m : Nat) (f : Nat → Nat) : Prop :=
  ∃ D : DataW Unit, w.ownsMap Tryd.prog 3 (plainElem Tryd.prog 42) b m D ∧ IsMap D ∧ ∀ k : Nat, D.atKey (.int .i64 (k : Int)) (.lit (.int .u32 0)) = .lit (.int .u32 (f k : Int))
theorem MapIs.lt {w : World} {b m : Nat} {f : Nat → Nat} (h : MapIs w b m f) : b < w.heap.size := let ⟨_, h1, _, _⟩ := h; h1.lt
theorem MapIs.kept {w w' : World} {b m : Nat} {f : Nat → Nat} (h : MapIs w b m f) {row : Option Nat} (hg : w.grownBy w' row) (hne : some b ≠ row) : MapIs w' b m f :=
  let ⟨D, h1, h2, h3⟩ := h; ⟨D, h1.kept hg hne, h2, h3⟩
theorem MapIs.new {w w' : World} {b m : Nat} {f : Nat → Nat} (h : MapIs w b m f) (hb : Below w.heap.size w w') : MapIs w' b m f :=
  h.kept (row := none) (only_of_below hb none) (by simp)
theorem MapIs.mono {w : World} {b m m' : Nat} {f : Nat → Nat} (h : MapIs w b m f) (hm : m ≤ m') : MapIs w b m' f :=
  let ⟨D, h1, h2, h3⟩ := h; ⟨D, h1.mono hm, h2, h3⟩
theorem MapIs.congr {w : World} {b m : Nat} {f g : Nat → Nat} (h : MapIs w b m f) (hfg : ∀ k, f k = g k) : MapIs w b m g :=
  let ⟨D, h1, h2, h3⟩ := h; ⟨D, h1, h2, fun k => by rw [← hfg k]; exact h3 k⟩
theorem MapIs.made (w : World) : MapIs (w.alloc (.map #[] 0)) w.heap.size 0 fun _ => 0 :=
  ⟨.map [], World.ownsMap_made w Tryd.prog 3 _, ⟨_, rfl⟩, fun k => rfl⟩
section
variable {ops : Array Oper} {rest : List Oper} {o : Oper} {a : Act} {w : World} {Q : Exit → Act → World → Prop} {b m : Nat} {f : Nat → Nat}
theorem key_wf {k : Nat} (hk : k ≤ 4294967296) : (Lit.int .i64 (k : Int)).wf = true := WalkArith.wf_i64 (by omega)
theorem wp_map_get (hg : o.guard = none) (y x : Operand) (hop : o.op = Op.lookup 61 y x false) (hm : a.eval y = .map (some b)) (h : MapIs w b m f) (k : Nat) (hk : k ≤ 4294967296) (hx : a.eval x = .int .i64 (k : Int))
    (hK : wpList Tryd.prog ops Q rest (a.put o.dst (.int .u32 (f k : Int))) w) : wpList Tryd.prog ops Q (o :: rest) a w := by
  obtain ⟨D, h1, h2, h3⟩ := h
  refine wpList_lookup_own_int w hg y x 61 hop 3 42 .u32 mapLaw Tryd.underlying61 Tryd.underlying42 (mapZero w) b m D hm h1 _ _ hx (keyOf_int_mk Tryd.underlying3 (key_wf hk)) ?_
  intro c hat hwc
  rw [h3 k] at hat
  injection hat with hat
  injection hat with _ hat
  rw [← hat]
  exact hK
theorem wp_map_put (hg : o.guard = none) (y x v : Operand) (hop : o.op = Op.mapUpdate 61 y x v) (hm : a.eval y = .map (some b)) (h : MapIs w b m f) (hmm : m ≤ 1000000) (k : Nat) (hk : k ≤ 4294967296) (hx : a.eval x = .int .i64 (k : Int)) (z : Nat) (hz : z < 4294967296) (hv : a.eval v = .int .u32 (z : Int))
    (hK : ∀ w', MapIs w' b (m + 1) (fun j => if j = k then z else f j) → w.grownBy w' (some b) → wpList Tryd.prog ops Q rest (a.put o.dst undef) w') : wpList Tryd.prog ops Q (o :: rest) a w := by
  obtain ⟨D, h1, h2, h3⟩ := h
  have hw : (Lit.int .u32 (z : Int)).wf = true := WalkArith.wf_u32 (by omega)
  refine wpList_mapUpdate_own w hg y x v 61 hop 3 42 mapLaw Tryd.underlying61 _ b m D hm h1 (by unfold maxLen; omega) _ _ _ hx hv (keyOf_int_mk Tryd.underlying3 (key_wf hk)) (.lit (.int .u32 (z : Int))) [] (plainElem_int Tryd.underlying42 hw) ?_
  intro w' h4 h5
  refine hK w' ⟨_, h4, ?_, fun j => ?_⟩ h5
  · obtain ⟨es, rfl⟩ := h2; exact ⟨_, rfl⟩
  · show _ = DataW.lit (.int .u32 ((if j = k then z else f j : Nat) : Int))
    by_cases hj : j = k
    · subst hj
      rw [if_pos rfl, atKey_put_same h2 (by trivial)]
    · rw [if_neg hj, atKey_put_other (by intro e; injection e with _ e; omega), h3 j]
theorem wp_map_clear (hg : o.guard = none) (y : Operand) (hop : o.op = .call { callee := .builtin .clear, args := #[y], argTypes := #[61] }) (hm : a.eval y = .map (some b)) (h : MapIs w b m f)
    (hK : ∀ w', MapIs w' b 0 (fun _ => 0) → w.grownBy w' (some b) → wpList Tryd.prog ops Q rest (a.put o.dst (.tuple #[])) w') : wpList Tryd.prog ops Q (o :: rest) a w := by
  obtain ⟨D, ⟨es, clock, hb, F, hs, hD⟩, h2, h3⟩ := h
  have hrun : (Builtin.clear_ #[61] o.type #[.map (some b)]).run Tryd.prog w = .ok (.tuple #[]) (setBlock w b (.map #[] clock)) := by
    simp [Builtin.clear_, run_underlying Tryd.underlying61, MapKept.run_getObj_map hb, MapKept.run_setObj_map _ hb, Result.andThen, setBlock]
  refine wpList_plain hg fun K' hK' => ?_
  unfold Oper.wp
  simp [execOp, hop, resolve, invoke, builtin, hm, hrun, Result.andThen]
  refine hK' _ _ (hK _ ⟨.map [], ⟨#[], clock, heap_setBlock_same hb _, ⟨by simp, stamped_empty clock, by simp⟩, Nat.zero_le _, rfl⟩, ⟨_, rfl⟩, fun k => rfl⟩ ?_)
  exact ⟨rfl, rfl, rfl, by simp [setBlock], fun i _ hi => heap_setBlock_other hb _ (fun e => hi (by rw [e]))⟩
end
end Go.Proofs.YtjofdlafblpclaaDoor
