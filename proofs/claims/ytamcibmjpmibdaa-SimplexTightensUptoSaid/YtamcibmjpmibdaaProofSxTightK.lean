/-
  SimplexTightens holds of the given program: for every input the law returns true, and each argument reads as it read before. Condition: the arguments are together of bulk at most 1048576 (the given form of second kind).
-/
import Derived.Test.YtamcibmjpmibdaaK1
import Derived.Test.YtamcibmjpmibdaaK15
import Derived.JoinedCond
import Derived.Test.YtamcibmjpmibdaaK18
namespace Go.Proofs.Ytamcibmjpmibdaa.simplexTightens
open Go.ChangeShapes Go.WideShapes Go.ChangeAt Go.RowKit Go.Joins
set_option linter.unusedVariables false

set_option maxRecDepth 100000 in
theorem lifted (os : Os) (started : os.Started) (H : Type) (enc : TypeId × Value → H) (F : Stop.Interp) :
    ReturnsInHanded {} Try.checked os 8 .any ((Rows.OpenSpec.upto Rows.simplexTightensSpec).pre6 enc Try.prog Try.f8 Rows.simplexTightensUptoRow.domain false) (((Rows.OpenSpec.upto Rows.simplexTightensSpec).at F).post enc Try.prog Try.f8 false true false false) := by
  refine returnsInHanded_of_cond (C := Try.checked) (s := Rows.OpenSpec.upto Rows.simplexTightensSpec) (k := Rows.uptoSmall) rfl own_knob started (by kernel_rfl) Try.func8
    (OpenSpec.witness (enc := enc) (C := Try.checked) (s := Rows.OpenSpec.upto Rows.simplexTightensSpec) (k := Rows.uptoSmall) rfl false ⟨#[], #[.agg #[.slice none 0 0, .slice none 0 0, .slice none 0 0], .slice none 0 0, .agg #[.int .i8 0, .int .u8 0]], []⟩ 8 (by kernel_rfl) (by kernel_rfl) (by kernel_rfl)
      (x := ([.agg [.nil, .nil, .nil], .nil, .agg [.lit (.int .i8 0), .lit (.int .u8 0)]], [], [])) (by kernel_rfl) (by kernel_rfl) (by kernel_rfl)) ?_
  intro W base args ds gs before hval0 hW hcnd hk _
  have hval : ∀ (j : Nat) t v, Try.f8.params[j]? = some t → args[j]? = some v → Value.okWide Try.prog W .any base t v := hval0
  have hW' := hW
  obtain ⟨p, q, hA0, hV, rfl, hfz, hnd⟩ := hW
  have hA : DataW.TrodAll enc Try.prog W 0 (fun _ => true) true Try.f8.params.toList args.toList ds p := hA0
  rw [Try.params8] at hA hval
  obtain ⟨v0, vs0, d0, ds0, p0, q0, hargs, rfl, rfl, h0, r0⟩ := trodAll_cons hA
  obtain ⟨v1, vs1, d1, ds1, p1, q1, rfl, rfl, rfl, h1, r1⟩ := trodAll_cons r0
  obtain ⟨v2, vs2, d2, ds2, p2, q2, rfl, rfl, rfl, h2, r2⟩ := trodAll_cons r1
  obtain ⟨rfl, rfl, rfl⟩ := trodAll_nil r2
  obtain rfl : args = #[v0, v1, v2] := by cases args; simp_all
  obtain ⟨rfl, rfl⟩ := trodVars_none hV
  simp only [List.append_nil] at hk
  have k0 := h0
  have lt0 : ∀ x ∈ p0, x.block < W.heap.size := by obtain ⟨m, hm⟩ := k0; exact DataW.trod_lt m _ _ _ hm
  obtain ⟨a00, a01, a02, y00, y01, y02, m0, rfl, rfl, -, e00, e01, e02⟩ := open_agg3 Try.underlying25 (by kernel_rfl) (by kernel_rfl) (hval 0 25 v0 rfl rfl) h0
  obtain ⟨n0, b0, k0n, cC0, cA0, cB0, PC0, PA0, PB0, Pr0, ln0, cp0, NC0, NB0, DC0, DB0, NA0, DA0, rfl, rfl, rfl, hP0⟩ := open_pgm rfl hk (by simp) e00 e01 e02
  have k1 := h1
  have lt1 : ∀ x ∈ p1, x.block < W.heap.size := by obtain ⟨m, hm⟩ := k1; exact DataW.trod_lt m _ _ _ hm
  obtain ⟨A1, len1, cap1, N1, D1, rfl, hE1, hS1, -⟩ : ∃ (A : Option Addr) (len cap : Nat) (N : Nat → Int) (D : Nat → Nat), v1 = .slice A len cap ∧ Reads W W.heap.size 2 A len (smL N D len) ∧ SmB N D len ∧ True := by
    obtain ⟨a, l, c, rfl⟩ := okWide_slice Try.underlying22 (hval 1 22 v1 rfl rfl)
    obtain ⟨fuel, hf⟩ := h1
    obtain ⟨A, len, cap, N, D, e, r1, r2, -⟩ := open_smalls hf
    exact ⟨A, len, cap, N, D, e, r1, r2, trivial⟩
  have k2 := h2
  have lt2 : ∀ x ∈ p2, x.block < W.heap.size := by obtain ⟨m, hm⟩ := k2; exact DataW.trod_lt m _ _ _ hm
  obtain ⟨a20, a21, y20, y21, m2, rfl, rfl, -, e20, e21⟩ := open_agg2 Try.underlying52 (by kernel_rfl) (by kernel_rfl) (hval 2 52 v2 rfl rfl) h2
  obtain ⟨N2, f2n, -, wn2⟩ := DataW.trod_int Try.underlying50 e20
  obtain ⟨z2, f2z, -, wz2⟩ := DataW.trod_int Try.underlying5 e21
  simp only [List.cons.injEq, and_true] at f2n f2z; subst f2n; subst f2z
  obtain ⟨D2, rfl⟩ : ∃ D : Nat, z2 = (D : Int) := ⟨z2.toNat, by have := bounds_u8 wz2; omega⟩
  have hS2 : -128 ≤ N2 ∧ N2 ≤ 127 ∧ D2 ≤ 255 := by have := bounds_u8 wz2; have := bounds_i8 wn2; omega
  clear hA0 hval0 hk
  refine (tightens_walk n0 b0 k0n cC0 cA0 cB0 PC0 PA0 PB0 Pr0 ln0 cp0 NC0 NB0 DC0 DB0 NA0 DA0 A1 len1 cap1 N1 D1 N2 D2 W hP0 hE1 hS1 hS2 _ _ _ rfl rfl rfl).mono fun e W' ⟨he, bel⟩ => ?_
  subst he
  exact ⟨_, rfl, _, _, _, [], _, [], hW', trodAll_mk1 (shut_bool Try.underlying4 _), (trodAll_cons_mk (Below.trod laid_out (by kernel_rfl) (of_decide_eq_true (by kernel_rfl)) k0 bel lt0) (trodAll_cons_mk (Below.trod laid_out (by kernel_rfl) (of_decide_eq_true (by kernel_rfl)) k1 bel lt1) (trodAll_cons_mk (Below.trod laid_out (by kernel_rfl) (of_decide_eq_true (by kernel_rfl)) k2 bel lt2) trodAll_mk0))), rfl, bel.frame _, fun h => by cases h⟩

theorem over : Rows.simplexTightensUptoRow.holds Try.pinned (Rows.OpenSpec.upto Rows.simplexTightensSpec) :=
  OpenClaim.holds_of_cond 8 Try.f8 rfl rfl rfl rfl rfl rfl rfl ⟨rfl, rfl, rfl, rfl, rfl⟩ rfl rfl rfl rfl rfl (by kernel_rfl) Try.func8 (by kernel_rfl)
    (of_decide_eq_true (by kernel_rfl)) (by unfold Func.isWrapper; first | (rw [if_pos (by decide +kernel)]; kernel_rfl) | (rw [if_neg (by decide +kernel)]; exact ⟨rfl, rfl⟩))
    (fun os started H enc _ F => lifted os started H enc F)

theorem proved : Rows.SimplexTightensUptoSaid := over
#print axioms proved
end Go.Proofs.Ytamcibmjpmibdaa.simplexTightens
