/-
  CoverGrows holds of the given program: for every input the law returns true, and each argument reads as it read before. Condition: the arguments are together of bulk at most 1048576 (the given form of second kind).
-/
import Derived.Test.YtpnklmgfdihjfaaK1
import Derived.Test.YtpnklmgfdihjfaaK14
import Derived.JoinedCond
import Derived.Test.YtpnklmgfdihjfaaK16
namespace Go.Proofs.Ytpnklmgfdihjfaa.coverGrows
open Go.ChangeShapes Go.WideShapes Go.ChangeAt Go.RowKit Go.Joins
set_option linter.unusedVariables false

set_option maxRecDepth 100000 in
theorem lifted (os : Os) (started : os.Started) (H : Type) (enc : TypeId × Value → H) (F : Stop.Interp) :
    ReturnsInHanded {} Try.checked os 5 .any ((Rows.OpenSpec.upto Rows.coverGrowsSpec).pre6 enc Try.prog Try.f5 Rows.coverGrowsUptoRow.domain false) (((Rows.OpenSpec.upto Rows.coverGrowsSpec).at F).post enc Try.prog Try.f5 false true false false) := by
  refine returnsInHanded_of_cond (C := Try.checked) (s := Rows.OpenSpec.upto Rows.coverGrowsSpec) (k := Rows.uptoSmall) rfl own_knob started (by kernel_rfl) Try.func5
    (OpenSpec.witness (enc := enc) (C := Try.checked) (s := Rows.OpenSpec.upto Rows.coverGrowsSpec) (k := Rows.uptoSmall) rfl false ⟨#[], #[.agg #[.int .u8 0, .slice none 0 0, .slice none 0 0, .int .i8 0], .slice none 0 0, .int .u8 0], []⟩ 8 (by kernel_rfl) (by kernel_rfl) (by kernel_rfl)
      (x := ([.agg [.lit (.int .u8 0), .nil, .nil, .lit (.int .i8 0)], .nil, .lit (.int .u8 0)], [], [])) (by kernel_rfl) (by kernel_rfl) (by kernel_rfl)) ?_
  intro W base args ds gs before hval0 hW hcnd hk _
  have hval : ∀ (j : Nat) t v, Try.f5.params[j]? = some t → args[j]? = some v → Value.okWide Try.prog W .any base t v := hval0
  have hW' := hW
  obtain ⟨p, q, hA0, hV, rfl, hfz, hnd⟩ := hW
  have hA : DataW.TrodAll enc Try.prog W 0 (fun _ => true) true Try.f5.params.toList args.toList ds p := hA0
  rw [Try.params5] at hA hval
  obtain ⟨v0, vs0, d0, ds0, p0, q0, hargs, rfl, rfl, h0, r0⟩ := trodAll_cons hA
  obtain ⟨v1, vs1, d1, ds1, p1, q1, rfl, rfl, rfl, h1, r1⟩ := trodAll_cons r0
  obtain ⟨v2, vs2, d2, ds2, p2, q2, rfl, rfl, rfl, h2, r2⟩ := trodAll_cons r1
  obtain ⟨rfl, rfl, rfl⟩ := trodAll_nil r2
  obtain rfl : args = #[v0, v1, v2] := by cases args; simp_all
  obtain ⟨rfl, rfl⟩ := trodVars_none hV
  simp only [List.append_nil] at hk
  have k0 := h0
  have lt0 : ∀ x ∈ p0, x.block < W.heap.size := by obtain ⟨m, hm⟩ := k0; exact DataW.trod_lt m _ _ _ hm
  obtain ⟨D0, a0n, b0n, ca0, cb0, AX0, AY0, xs0, ys0, vN0, rfl, hD0, hX0, hY0, hv0, ha0, hb0⟩ := open_guess (hval 0 43 v0 rfl rfl) h0 hk (by simp)
  have k1 := h1
  have lt1 : ∀ x ∈ p1, x.block < W.heap.size := by obtain ⟨m, hm⟩ := k1; exact DataW.trod_lt m _ _ _ hm
  obtain ⟨A1, len1, cap1, xs1, rfl, hE1⟩ : ∃ A len cap xs, v1 = .slice A len cap ∧ Ks .i16 32768 W W.heap.size A len xs := by
    obtain ⟨a, l, c, rfl⟩ := okWide_slice Try.underlying44 (hval 1 44 v1 rfl rfl)
    obtain ⟨fuel, hf⟩ := h1
    obtain ⟨A, len, cap, xs, e, r, -⟩ := open_ks (m := 32768) Try.underlying44 Try.underlying50 (by kernel_rfl) (fun z hz => by have := bounds_i16 hz; omega) hf
    exact ⟨A, len, cap, xs, e, r⟩
  have k2 := h2
  have lt2 : ∀ x ∈ p2, x.block < W.heap.size := by obtain ⟨m, hm⟩ := k2; exact DataW.trod_lt m _ _ _ hm
  obtain ⟨x2, rfl, -, -, wx2⟩ := open_int Try.underlying5 (hval 2 5 v2 rfl rfl) h2
  have wx2 := bounds_u8 wx2
  clear hA0 hval0 hk
  refine (coverGrows_walk D0 a0n b0n ca0 cb0 AX0 AY0 xs0 ys0 vN0 A1 len1 cap1 xs1 x2 W hD0 hX0 hY0 hv0 ha0 hb0 hE1 wx2 ).mono fun e W' ⟨he, bel⟩ => ?_
  subst he
  exact ⟨_, rfl, _, _, _, [], _, [], hW', trodAll_mk1 (shut_bool Try.underlying4 _), (trodAll_cons_mk (Below.trod laid_out (by kernel_rfl) (of_decide_eq_true (by kernel_rfl)) k0 bel lt0) (trodAll_cons_mk (Below.trod laid_out (by kernel_rfl) (of_decide_eq_true (by kernel_rfl)) k1 bel lt1) (trodAll_cons_mk (Below.trod laid_out (by kernel_rfl) (of_decide_eq_true (by kernel_rfl)) k2 bel lt2) trodAll_mk0))), rfl, bel.frame _, fun h => by cases h⟩

theorem over : Rows.coverGrowsUptoRow.holds Try.pinned (Rows.OpenSpec.upto Rows.coverGrowsSpec) :=
  OpenClaim.holds_of_cond 5 Try.f5 rfl rfl rfl rfl rfl rfl rfl ⟨rfl, rfl, rfl, rfl, rfl⟩ rfl rfl rfl rfl rfl (by kernel_rfl) Try.func5 (by kernel_rfl)
    (of_decide_eq_true (by kernel_rfl)) (by unfold Func.isWrapper; first | (rw [if_pos (by decide +kernel)]; kernel_rfl) | (rw [if_neg (by decide +kernel)]; exact ⟨rfl, rfl⟩))
    (fun os started H enc _ F => lifted os started H enc F)

theorem proved : Rows.CoverGrowsUptoSaid := over
#print axioms proved
end Go.Proofs.Ytpnklmgfdihjfaa.coverGrows
