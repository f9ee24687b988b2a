/-
  RatOrders holds of the given program: for every input the law returns true, and each argument reads as it read before. No condition.
-/
import Derived.Test.YtifnbpkcnkfanaaOpen
import Derived.Test.YtifnbpkcnkfanaaQOrders
namespace Go.Proofs.Ytifnbpkcnkfanaa.ratOrders
open Go.ChangeShapes Go.WideShapes Go.ChangeAt Go.RowKit Go.Joins
set_option linter.unusedVariables false

set_option maxRecDepth 100000 in
theorem lifted (os : Os) (started : os.Started) (H : Type) (enc : TypeId × Value → H) :
    ReturnsInHanded {} Try.checked os 5 .any (Rows.ratOrdersSpec.pre6 enc Try.prog Try.f5 Rows.ratOrdersRow.domain false) (Rows.ratOrdersSpec.post enc Try.prog Try.f5 false true false false) := by
  refine returnsInHanded_of_change (C := Try.checked) own_knob started (by kernel_rfl) Try.func5
    (ChangeSpec.witness6 (enc := enc) (C := Try.checked) false ⟨#[], #[.agg #[.bool false, .slice none 0 0, .slice none 0 0], .agg #[.bool false, .slice none 0 0, .slice none 0 0], .agg #[.bool false, .slice none 0 0, .slice none 0 0]], []⟩ 8 (by kernel_rfl) (by kernel_rfl) (by kernel_rfl) (by kernel_rfl)) ?_
  intro W base args ds gs before hval0 hW hcnd _
  have hval : ∀ (j : Nat) t v, Try.f5.params[j]? = some t → args[j]? = some v → Value.okWide Try.prog W .any base t v := hval0
  have hW' := hW
  obtain ⟨p, q, hA0, hV, rfl, hfz, hnd⟩ := hW
  have hA : DataW.TrodAll enc Try.prog W 0 (fun _ => true) true Try.f5.params.toList args.toList ds p := hA0
  rw [Try.params5] at hA hval
  obtain ⟨v0, vs0, d0, ds0, p0, q0, hargs, rfl, rfl, h0, r0⟩ := trodAll_cons hA
  obtain ⟨v1, vs1, d1, ds1, p1, q1, rfl, rfl, rfl, h1, r1⟩ := trodAll_cons r0
  obtain ⟨v2, vs2, d2, ds2, p2, q2, rfl, rfl, rfl, h2, r2⟩ := trodAll_cons r1
  obtain ⟨rfl, rfl, rfl⟩ := trodAll_nil r2
  obtain rfl : args = #[v0, v1, v2] := by cases args; simp_all
  obtain ⟨rfl, rfl⟩ := trodVars_none hV
  have k0 := h0
  have lt0 : ∀ x ∈ p0, x.block < W.heap.size := by obtain ⟨m, hm⟩ := k0; exact DataW.trod_lt m _ _ _ hm
  obtain ⟨a00, a01, a02, y00, y01, y02, m0, rfl, rfl, -, e00, e01, e02⟩ := open_agg3 Try.underlying44 (by kernel_rfl) (by kernel_rfl) (hval 0 44 v0 rfl rfl) h0
  obtain ⟨s0, f0, -⟩ := DataW.trod_bool Try.underlying4 e00
  simp only [List.cons.injEq, and_true] at f0; subst f0
  obtain ⟨A0, n0, c0, es0, rfl, hE0, hcap0⟩ := open_es Try.underlying26 Try.underlying23 (by kernel_rfl) e01
  obtain ⟨B0, b0, d0, fs0, rfl, hF0, hcbp0⟩ := open_es Try.underlying26 Try.underlying23 (by kernel_rfl) e02
  have k1 := h1
  have lt1 : ∀ x ∈ p1, x.block < W.heap.size := by obtain ⟨m, hm⟩ := k1; exact DataW.trod_lt m _ _ _ hm
  obtain ⟨a10, a11, a12, y10, y11, y12, m1, rfl, rfl, -, e10, e11, e12⟩ := open_agg3 Try.underlying44 (by kernel_rfl) (by kernel_rfl) (hval 1 44 v1 rfl rfl) h1
  obtain ⟨s1, f1, -⟩ := DataW.trod_bool Try.underlying4 e10
  simp only [List.cons.injEq, and_true] at f1; subst f1
  obtain ⟨A1, n1, c1, es1, rfl, hE1, hcap1⟩ := open_es Try.underlying26 Try.underlying23 (by kernel_rfl) e11
  obtain ⟨B1, b1, d1, fs1, rfl, hF1, hcbp1⟩ := open_es Try.underlying26 Try.underlying23 (by kernel_rfl) e12
  have k2 := h2
  have lt2 : ∀ x ∈ p2, x.block < W.heap.size := by obtain ⟨m, hm⟩ := k2; exact DataW.trod_lt m _ _ _ hm
  obtain ⟨a20, a21, a22, y20, y21, y22, m2, rfl, rfl, -, e20, e21, e22⟩ := open_agg3 Try.underlying44 (by kernel_rfl) (by kernel_rfl) (hval 2 44 v2 rfl rfl) h2
  obtain ⟨s2, f2, -⟩ := DataW.trod_bool Try.underlying4 e20
  simp only [List.cons.injEq, and_true] at f2; subst f2
  obtain ⟨A2, n2, c2, es2, rfl, hE2, hcap2⟩ := open_es Try.underlying26 Try.underlying23 (by kernel_rfl) e21
  obtain ⟨B2, b2, d2, fs2, rfl, hF2, hcbp2⟩ := open_es Try.underlying26 Try.underlying23 (by kernel_rfl) e22
  clear hA0 hval0
  refine (ratOrders_walk  W ⟨⟨hE0, hcap0⟩, ⟨hF0, hcbp0⟩⟩ ⟨⟨hE1, hcap1⟩, ⟨hF1, hcbp1⟩⟩ ⟨⟨hE2, hcap2⟩, ⟨hF2, hcbp2⟩⟩).mono fun e W' ⟨he, bel⟩ => ?_
  subst he
  exact ⟨_, rfl, _, _, _, [], _, [], hW', trodAll_mk1 (shut_bool Try.underlying4 _), (trodAll_cons_mk (Below.trod laid_out (by kernel_rfl) (of_decide_eq_true (by kernel_rfl)) k0 bel lt0) (trodAll_cons_mk (Below.trod laid_out (by kernel_rfl) (of_decide_eq_true (by kernel_rfl)) k1 bel lt1) (trodAll_cons_mk (Below.trod laid_out (by kernel_rfl) (of_decide_eq_true (by kernel_rfl)) k2 bel lt2) trodAll_mk0))), rfl, bel.frame _, fun h => by cases h⟩

theorem over : Rows.ratOrdersRow.holds Try.pinned (OpenSpec.ofChange Rows.ratOrdersSpec) :=
  OpenClaim.holds_of_wide 5 Try.f5 rfl rfl rfl rfl rfl rfl rfl ⟨rfl, rfl, rfl, rfl, rfl⟩ rfl rfl rfl rfl rfl (by kernel_rfl) Try.func5 (by kernel_rfl)
    (of_decide_eq_true (by kernel_rfl)) (by unfold Func.isWrapper; first | (rw [if_pos (by decide +kernel)]; kernel_rfl) | (rw [if_neg (by decide +kernel)]; exact ⟨rfl, rfl⟩))
    (fun os started H enc _ => lifted os started H enc)

theorem proved : Rows.RatOrdersSaid := over
#print axioms proved
end Go.Proofs.Ytifnbpkcnkfanaa.ratOrders
