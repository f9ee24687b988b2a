/-
  CoverLeast holds of the given program: for every input the law returns true, and each argument reads as it read before. Condition: the arguments are together of bulk at most 1048576 (the given form of second kind).
-/
import Derived.Test.YtpnklmgfdihjfaaK1
import Derived.Test.YtpnklmgfdihjfaaK14
import Derived.JoinedCond
import Derived.Test.YtpnklmgfdihjfaaK17
namespace Go.Proofs.Ytpnklmgfdihjfaa.coverLeast
open Go.ChangeShapes Go.WideShapes Go.ChangeAt Go.RowKit Go.Joins
set_option linter.unusedVariables false

set_option maxRecDepth 100000 in
theorem lifted (os : Os) (started : os.Started) (H : Type) (enc : TypeId × Value → H) (F : Stop.Interp) :
    ReturnsInHanded {} Try.checked os 6 .any ((Rows.OpenSpec.upto Rows.coverLeastSpec).pre6 enc Try.prog Try.f6 Rows.coverLeastUptoRow.domain false) (((Rows.OpenSpec.upto Rows.coverLeastSpec).at F).post enc Try.prog Try.f6 false true false false) := by
  refine returnsInHanded_of_cond (C := Try.checked) (s := Rows.OpenSpec.upto Rows.coverLeastSpec) (k := Rows.uptoSmall) rfl own_knob started (by kernel_rfl) Try.func6
    (OpenSpec.witness (enc := enc) (C := Try.checked) (s := Rows.OpenSpec.upto Rows.coverLeastSpec) (k := Rows.uptoSmall) rfl false ⟨#[], #[.agg #[.int .i64 0, .slice none 0 0], .int .u32 0, .agg #[.int .u8 0, .slice none 0 0, .slice none 0 0, .int .i8 0]], []⟩ 8 (by kernel_rfl) (by kernel_rfl) (by kernel_rfl)
      (x := ([.agg [.lit (.int .i64 0), .nil], .lit (.int .u32 0), .agg [.lit (.int .u8 0), .nil, .nil, .lit (.int .i8 0)]], [], [])) (by kernel_rfl) (by kernel_rfl) (by kernel_rfl)) ?_
  intro W base args ds gs before hval0 hW hcnd hk _
  have hval : ∀ (j : Nat) t v, Try.f6.params[j]? = some t → args[j]? = some v → Value.okWide Try.prog W .any base t v := hval0
  have hW' := hW
  obtain ⟨p, q, hA0, hV, rfl, hfz, hnd⟩ := hW
  have hA : DataW.TrodAll enc Try.prog W 0 (fun _ => true) true Try.f6.params.toList args.toList ds p := hA0
  rw [Try.params6] at hA hval
  obtain ⟨v0, vs0, d0, ds0, p0, q0, hargs, rfl, rfl, h0, r0⟩ := trodAll_cons hA
  obtain ⟨v1, vs1, d1, ds1, p1, q1, rfl, rfl, rfl, h1, r1⟩ := trodAll_cons r0
  obtain ⟨v2, vs2, d2, ds2, p2, q2, rfl, rfl, rfl, h2, r2⟩ := trodAll_cons r1
  obtain ⟨rfl, rfl, rfl⟩ := trodAll_nil r2
  obtain rfl : args = #[v0, v1, v2] := by cases args; simp_all
  obtain ⟨rfl, rfl⟩ := trodVars_none hV
  simp only [List.append_nil] at hk
  have k0 := h0
  have lt0 : ∀ x ∈ p0, x.block < W.heap.size := by obtain ⟨m, hm⟩ := k0; exact DataW.trod_lt m _ _ _ hm
  obtain ⟨a00, a01, y00, y01, m0, rfl, rfl, -, e00, e01⟩ := open_agg2 Try.underlying24 (by kernel_rfl) (by kernel_rfl) (hval 0 24 v0 rfl rfl) h0
  obtain ⟨n0, f0, -, wn0⟩ := DataW.trod_int Try.underlying3 e00
  simp only [List.cons.injEq, and_true] at f0; subst f0
  obtain ⟨A0, len0, cap0, es0, rfl, hE0, hcap0⟩ := open_es Try.underlying22 Try.underlying25 (by kernel_rfl) e01
  have wn0 := wf_i64 wn0
  have k1 := h1
  have lt1 : ∀ x ∈ p1, x.block < W.heap.size := by obtain ⟨m, hm⟩ := k1; exact DataW.trod_lt m _ _ _ hm
  obtain ⟨x1, rfl, -, -, wx1⟩ := open_int Try.underlying25 (hval 1 25 v1 rfl rfl) h1
  have wx1 := bounds_u32 wx1
  have k2 := h2
  have lt2 : ∀ x ∈ p2, x.block < W.heap.size := by obtain ⟨m, hm⟩ := k2; exact DataW.trod_lt m _ _ _ hm
  obtain ⟨D2, a2n, b2n, ca2, cb2, AX2, AY2, xs2, ys2, vN2, rfl, hD2, hX2, hY2, hv2, ha2, hb2⟩ := open_guess (hval 2 43 v2 rfl rfl) h2 hk (by simp)
  clear hA0 hval0 hk
  refine (coverLeast_walk n0 A0 es0 len0 cap0 x1 D2 a2n b2n ca2 cb2 AX2 AY2 xs2 ys2 vN2 W hE0 wn0 hcap0 wx1 hD2 hX2 hY2 hv2 ha2 hb2 ).mono fun e W' ⟨he, bel⟩ => ?_
  subst he
  exact ⟨_, rfl, _, _, _, [], _, [], hW', trodAll_mk1 (shut_bool Try.underlying4 _), (trodAll_cons_mk (Below.trod laid_out (by kernel_rfl) (of_decide_eq_true (by kernel_rfl)) k0 bel lt0) (trodAll_cons_mk (Below.trod laid_out (by kernel_rfl) (of_decide_eq_true (by kernel_rfl)) k1 bel lt1) (trodAll_cons_mk (Below.trod laid_out (by kernel_rfl) (of_decide_eq_true (by kernel_rfl)) k2 bel lt2) trodAll_mk0))), rfl, bel.frame _, fun h => by cases h⟩

theorem over : Rows.coverLeastUptoRow.holds Try.pinned (Rows.OpenSpec.upto Rows.coverLeastSpec) :=
  OpenClaim.holds_of_cond 6 Try.f6 rfl rfl rfl rfl rfl rfl rfl ⟨rfl, rfl, rfl, rfl, rfl⟩ rfl rfl rfl rfl rfl (by kernel_rfl) Try.func6 (by kernel_rfl)
    (of_decide_eq_true (by kernel_rfl)) (by unfold Func.isWrapper; first | (rw [if_pos (by decide +kernel)]; kernel_rfl) | (rw [if_neg (by decide +kernel)]; exact ⟨rfl, rfl⟩))
    (fun os started H enc _ F => lifted os started H enc F)

theorem proved : Rows.CoverLeastUptoSaid := over
#print axioms proved
end Go.Proofs.Ytpnklmgfdihjfaa.coverLeast
