/-
  SimplexFlat holds of the given program: for every input the law returns true, and each argument reads as it read before. Condition: the arguments are together of bulk at most 1048576 (the given form of second kind).
-/
import Derived.Test.YtamcibmjpmibdaaK1
import Derived.Test.YtamcibmjpmibdaaK13
import Derived.JoinedCond
import Derived.Test.YtamcibmjpmibdaaK17
namespace Go.Proofs.Ytamcibmjpmibdaa.simplexFlat
open Go.ChangeShapes Go.WideShapes Go.ChangeAt Go.RowKit Go.Joins
set_option linter.unusedVariables false

set_option maxRecDepth 100000 in
theorem lifted (os : Os) (started : os.Started) (H : Type) (enc : TypeId × Value → H) (F : Stop.Interp) :
    ReturnsInHanded {} Try.checked os 5 .any ((Rows.OpenSpec.upto Rows.simplexFlatSpec).pre6 enc Try.prog Try.f5 Rows.simplexFlatUptoRow.domain false) (((Rows.OpenSpec.upto Rows.simplexFlatSpec).at F).post enc Try.prog Try.f5 false true false false) := by
  refine returnsInHanded_of_cond (C := Try.checked) (s := Rows.OpenSpec.upto Rows.simplexFlatSpec) (k := Rows.uptoSmall) rfl own_knob started (by kernel_rfl) Try.func5
    (OpenSpec.witness (enc := enc) (C := Try.checked) (s := Rows.OpenSpec.upto Rows.simplexFlatSpec) (k := Rows.uptoSmall) rfl false ⟨#[], #[.agg #[.slice none 0 0, .slice none 0 0, .slice none 0 0]], []⟩ 8 (by kernel_rfl) (by kernel_rfl) (by kernel_rfl)
      (x := ([.agg [.nil, .nil, .nil]], [], [])) (by kernel_rfl) (by kernel_rfl) (by kernel_rfl)) ?_
  intro W base args ds gs before hval0 hW hcnd hk _
  have hval : ∀ (j : Nat) t v, Try.f5.params[j]? = some t → args[j]? = some v → Value.okWide Try.prog W .any base t v := hval0
  have hW' := hW
  obtain ⟨p, q, hA0, hV, rfl, hfz, hnd⟩ := hW
  have hA : DataW.TrodAll enc Try.prog W 0 (fun _ => true) true Try.f5.params.toList args.toList ds p := hA0
  rw [Try.params5] at hA hval
  obtain ⟨v0, vs0, d0, ds0, p0, q0, hargs, rfl, rfl, h0, r0⟩ := trodAll_cons hA
  obtain ⟨rfl, rfl, rfl⟩ := trodAll_nil r0
  obtain rfl : args = #[v0] := by cases args; simp_all
  obtain ⟨rfl, rfl⟩ := trodVars_none hV
  simp only [List.append_nil] at hk
  have k0 := h0
  have lt0 : ∀ x ∈ p0, x.block < W.heap.size := by obtain ⟨m, hm⟩ := k0; exact DataW.trod_lt m _ _ _ hm
  obtain ⟨a00, a01, a02, y00, y01, y02, m0, rfl, rfl, -, e00, e01, e02⟩ := open_agg3 Try.underlying25 (by kernel_rfl) (by kernel_rfl) (hval 0 25 v0 rfl rfl) h0
  obtain ⟨n0, b0, k0n, cC0, cA0, cB0, PC0, PA0, PB0, Pr0, ln0, cp0, NC0, NB0, DC0, DB0, NA0, DA0, rfl, rfl, rfl, hP0⟩ := open_pgm rfl hk (by simp) e00 e01 e02
  clear hA0 hval0 hk
  refine (flat_walk n0 b0 k0n cC0 cA0 cB0 PC0 PA0 PB0 Pr0 ln0 cp0 NC0 NB0 DC0 DB0 NA0 DA0 W hP0 _ _ _ rfl rfl rfl).mono fun e W' ⟨he, bel⟩ => ?_
  subst he
  exact ⟨_, rfl, _, _, _, [], _, [], hW', trodAll_mk1 (shut_bool Try.underlying4 _), (trodAll_cons_mk (Below.trod laid_out (by kernel_rfl) (of_decide_eq_true (by kernel_rfl)) k0 bel lt0) trodAll_mk0), rfl, bel.frame _, fun h => by cases h⟩

theorem over : Rows.simplexFlatUptoRow.holds Try.pinned (Rows.OpenSpec.upto Rows.simplexFlatSpec) :=
  OpenClaim.holds_of_cond 5 Try.f5 rfl rfl rfl rfl rfl rfl rfl ⟨rfl, rfl, rfl, rfl, rfl⟩ rfl rfl rfl rfl rfl (by kernel_rfl) Try.func5 (by kernel_rfl)
    (of_decide_eq_true (by kernel_rfl)) (by unfold Func.isWrapper; first | (rw [if_pos (by decide +kernel)]; kernel_rfl) | (rw [if_neg (by decide +kernel)]; exact ⟨rfl, rfl⟩))
    (fun os started H enc _ F => lifted os started H enc F)

theorem proved : Rows.SimplexFlatUptoSaid := over
#print axioms proved
end Go.Proofs.Ytamcibmjpmibdaa.simplexFlat
