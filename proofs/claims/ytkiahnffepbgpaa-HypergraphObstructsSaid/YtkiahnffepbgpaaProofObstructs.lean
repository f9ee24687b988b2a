/-
  HypergraphObstructs holds of the given program: for every input the law returns true, and each argument reads as it read before. No condition.
-/
import Derived.Test.YtkiahnffepbgpaaOpen
import Derived.Test.YtkiahnffepbgpaaLawObstructs
namespace Go.Proofs.Ytkiahnffepbgpaa.hypergraphObstructs
open Go.ChangeShapes Go.WideShapes Go.ChangeAt Go.RowKit Go.Joins
set_option linter.unusedVariables false

set_option maxRecDepth 100000 in
theorem lifted (os : Os) (started : os.Started) (H : Type) (enc : TypeId × Value → H) :
    ReturnsInHanded {} Try.checked os 6 .any (Rows.hypergraphObstructsSpec.pre6 enc Try.prog Try.f6 Rows.hypergraphObstructsRow.domain false) (Rows.hypergraphObstructsSpec.post enc Try.prog Try.f6 false true false false) := by
  refine returnsInHanded_of_change (C := Try.checked) own_knob started (by kernel_rfl) Try.func6
    (ChangeSpec.witness6 (enc := enc) (C := Try.checked) false ⟨#[], #[.agg #[.int .i64 0, .slice none 0 0], .slice none 0 0], []⟩ 8 (by kernel_rfl) (by kernel_rfl) (by kernel_rfl) (by kernel_rfl)) ?_
  intro W base args ds gs before hval0 hW hcnd _
  have hval : ∀ (j : Nat) t v, Try.f6.params[j]? = some t → args[j]? = some v → Value.okWide Try.prog W .any base t v := hval0
  have hW' := hW
  obtain ⟨p, q, hA0, hV, rfl, hfz, hnd⟩ := hW
  have hA : DataW.TrodAll enc Try.prog W 0 (fun _ => true) true Try.f6.params.toList args.toList ds p := hA0
  rw [Try.params6] at hA hval
  obtain ⟨v0, vs0, d0, ds0, p0, q0, hargs, rfl, rfl, h0, r0⟩ := trodAll_cons hA
  obtain ⟨v1, vs1, d1, ds1, p1, q1, rfl, rfl, rfl, h1, r1⟩ := trodAll_cons r0
  obtain ⟨rfl, rfl, rfl⟩ := trodAll_nil r1
  obtain rfl : args = #[v0, v1] := by cases args; simp_all
  obtain ⟨rfl, rfl⟩ := trodVars_none hV
  have k0 := h0
  have lt0 : ∀ x ∈ p0, x.block < W.heap.size := by obtain ⟨m, hm⟩ := k0; exact DataW.trod_lt m _ _ _ hm
  obtain ⟨a00, a01, y00, y01, m0, rfl, rfl, -, e00, e01⟩ := open_agg2 Try.underlying24 (by kernel_rfl) (by kernel_rfl) (hval 0 24 v0 rfl rfl) h0
  obtain ⟨n0, f0, -, wn0⟩ := DataW.trod_int Try.underlying3 e00
  simp only [List.cons.injEq, and_true] at f0; subst f0
  obtain ⟨A0, len0, cap0, es0, rfl, hE0, hcap0⟩ := open_es Try.underlying22 Try.underlying36 (by kernel_rfl) e01
  have wn0 := wf_i64 wn0
  have k1 := h1
  have lt1 : ∀ x ∈ p1, x.block < W.heap.size := by obtain ⟨m, hm⟩ := k1; exact DataW.trod_lt m _ _ _ hm
  obtain ⟨A1, len1, cap1, xs1, rfl, hE1, hcap1⟩ : ∃ A len cap xs, v1 = .slice A len cap ∧ Xs W W.heap.size A len xs ∧ len ≤ cap := by
    obtain ⟨a, l, c, rfl⟩ := okWide_slice Try.underlying44 (hval 1 44 v1 rfl rfl)
    obtain ⟨fuel, hf⟩ := h1
    exact open_xs Try.underlying44 Try.underlying3 (by kernel_rfl) hf
  clear hA0 hval0
  refine (hypergraphObstructs_walk n0 A0 es0 len0 cap0 A1 xs1 len1 cap1 W hE0 wn0 hcap0 hE1 hcap1).mono fun e W' ⟨he, bel⟩ => ?_
  subst he
  exact ⟨_, rfl, _, _, _, [], _, [], hW', trodAll_mk1 (shut_bool Try.underlying4 _), (trodAll_cons_mk (Below.trod laid_out (by kernel_rfl) (of_decide_eq_true (by kernel_rfl)) k0 bel lt0) (trodAll_cons_mk (Below.trod laid_out (by kernel_rfl) (of_decide_eq_true (by kernel_rfl)) k1 bel lt1) trodAll_mk0)), rfl, bel.frame _, fun h => by cases h⟩

theorem over : Rows.hypergraphObstructsRow.holds Try.pinned (OpenSpec.ofChange Rows.hypergraphObstructsSpec) :=
  OpenClaim.holds_of_wide 6 Try.f6 rfl rfl rfl rfl rfl rfl rfl ⟨rfl, rfl, rfl, rfl, rfl⟩ rfl rfl rfl rfl rfl (by kernel_rfl) Try.func6 (by kernel_rfl)
    (of_decide_eq_true (by kernel_rfl)) (by unfold Func.isWrapper; first | (rw [if_pos (by decide +kernel)]; kernel_rfl) | (rw [if_neg (by decide +kernel)]; exact ⟨rfl, rfl⟩))
    (fun os started H enc _ => lifted os started H enc)

theorem proved : Rows.HypergraphObstructsSaid := over
#print axioms proved
end Go.Proofs.Ytkiahnffepbgpaa.hypergraphObstructs
