/-
  NatSums holds of the given program: for every input the law returns true, and each argument reads as it read before. No condition.
-/
import Derived.Test.YtnpokifmknepoaaOpen
import Derived.Test.YtnpokifmknepoaaNSums
import Derived.SizedLaws
import Derived.Deep.Matrix
namespace Go.Proofs.Ytnpokifmknepoaa.natSums
open Go.ChangeShapes Go.WideShapes Go.ChangeAt Go.RowKit Go.Joins Go.Deep
set_option linter.unusedVariables false

theorem weightsAll_mem {H : Type} {P : Program} {e : TypeId} : ∀ {l : List (DataW H)} {d : DataW H}, d ∈ l → ∀ n ∈ d.weights P e, n ∈ DataW.weightsAll P e l
  | d' :: r, d, hd, n, hn => by
    simp only [DataW.weightsAll, List.mem_append]
    rcases List.mem_cons.1 hd with rfl | h
    · exact Or.inl hn
    · exact Or.inr (weightsAll_mem h n hn)
theorem sized_inner {H : Type} {P : Program} {ts : List TypeId} {ds : List (DataW H)} (h : (DataW.weightsEach P ts ds).all (· ≤ reachBytes) = true) {j : Nat} {t e q : TypeId} {elems spare e' sp' : List (DataW H)}
    (ht : ts[j]? = some t) (hd : ds[j]? = some (.slice elems spare)) (hu : P.underlying t = some (.slice e)) (hu2 : P.underlying e = some (.slice q)) (hx : DataW.slice e' sp' ∈ elems) : (e'.length + sp'.length) * P.bytesOf q ≤ reachBytes := by
  refine of_decide_eq_true (List.all_eq_true.1 h _ (DataW.weights_mem_each ht hd _ ?_))
  simp only [DataW.weights, hu, List.mem_cons, List.mem_append]
  exact Or.inr (Or.inl (weightsAll_mem hx _ (by simp [DataW.weights, hu2])))
theorem bytes_u32 : Try.prog.bytesOf 35 = 4 := by kernel_rfl

set_option maxRecDepth 100000 in
theorem lifted (os : Os) (started : os.Started) (H : Type) (enc : TypeId × Value → H) :
    ReturnsInHanded {} Try.checked os 5 .any (Rows.natSumsSpec.pre6 enc Try.prog Try.f5 Rows.natSumsRow.domain false) (Rows.natSumsSpec.post enc Try.prog Try.f5 false true false false) := by
  refine returnsInHanded_of_change_sized (C := Try.checked) own_knob started (by kernel_rfl) Try.func5
    (ChangeSpec.witness6 (enc := enc) (C := Try.checked) false ⟨#[], #[.slice none 0 0], []⟩ 8 (by kernel_rfl) (by kernel_rfl) (by kernel_rfl) (by kernel_rfl)) ?_
  intro W base args ds gs before hval0 hW hcnd hsz0 _
  have hsz : (DataW.weightsEach Try.prog (Try.f5.params.toList ++ Rows.natSumsSpec.plain.varTypes Try.prog) (ds ++ gs)).all (· ≤ reachBytes) = true := hsz0
  clear hsz0
  have hval : ∀ (j : Nat) t v, Try.f5.params[j]? = some t → args[j]? = some v → Value.okWide Try.prog W .any base t v := hval0
  have hW' := hW
  obtain ⟨p, q, hA0, hV, rfl, hfz, hnd⟩ := hW
  have hA : DataW.TrodAll enc Try.prog W 0 (fun _ => true) true Try.f5.params.toList args.toList ds p := hA0
  rw [Try.params5] at hA hval hsz
  obtain ⟨v0, vs0, d0, ds0, p0, q0, hargs, rfl, rfl, h0, r0⟩ := trodAll_cons hA
  obtain ⟨rfl, rfl, rfl⟩ := trodAll_nil r0
  obtain rfl : args = #[v0] := by cases args; simp_all
  obtain ⟨rfl, rfl⟩ := trodVars_none hV
  have k0 := h0
  have lt0 : ∀ x ∈ p0, x.block < W.heap.size := by obtain ⟨m, hm⟩ := k0; exact DataW.trod_lt m _ _ _ hm
  obtain ⟨A0, len0, cap0, L, V, rfl, hE0⟩ : ∃ A len cap L V, v0 = .slice A len cap ∧ Ls W 35184372087808 A len L V := by
    obtain ⟨a, l, c, rfl⟩ := okWide_slice Try.underlying48 (hval 0 48 v0 rfl rfl)
    obtain ⟨fuel, hf⟩ := h0
    rcases open_int_rows Try.underlying48 Try.underlying23 Try.underlying35 (by kernel_rfl) (by kernel_rfl) hf with ⟨hcs, -⟩ | ⟨ad, len, cap, A, L, C, Z, hcs, -, hl, hm, hx, hrow⟩
    · cases hcs
      exact ⟨none, 0, 0, fun _ => 0, fun _ => 0, rfl, by omega, fun h => by omega⟩
    · cases hcs
      unfold maxLen at hm
      refine ⟨some ad, _, _, L, fun r => valB 4294967296 (((Z r).take (L r)).map Int.toNat), rfl, by omega, fun hn => ⟨ad, rfl, ?_, fun r hr => ?_⟩⟩
      · have := block_lt_of_cell (hrow 0 (by omega)).1
        rwa [block_of_add] at this
      · obtain ⟨h1, h2, h3, h4, h5, h6, h7⟩ := hrow r (by omega)
        unfold maxLen at h3
        have hK : L r ≤ 35184372087808 := by
          cases hA : A r with
          | none => have := h6 hA; omega
          | some a' =>
            simp only [Prod.mk.injEq] at hx
            have hin := sized_inner hsz (j := 0) (t := 48) (e := 23) (q := 35) rfl (by rw [hx.1]; rfl) Try.underlying48 Try.underlying23
              (e' := lits .u32 ((Z r).take (L r))) (sp' := lits .u32 ((Z r).drop (L r)))
              (List.mem_map.2 ⟨r, List.mem_range.2 hr, by simp [intRow, hA]⟩)
            simp only [lits, List.length_map, List.length_take, List.length_drop, bytes_u32, reachBytes] at hin
            omega
        refine ⟨A r, C r, ((Z r).take (L r)).map Int.toNat, h1, h2, hK, ?_, rfl⟩
        have hlen : (((Z r).take (L r)).map Int.toNat).length = L r := by simp; omega
        refine ⟨⟨by rw [U32_length, hlen]; omega, fun hn => ?_⟩, ⟨hlen.symm, by omega⟩, fun y hy => ?_⟩
        · cases hA : A r with
          | none => have := h6 hA; omega
          | some a' =>
            obtain ⟨-, hc⟩ := h7 a' hA
            refine ⟨a', rfl, ?_, fun j u hu => ?_⟩
            · have := block_lt_of_cell (hc 0 (by omega))
              rwa [block_of_add] at this
            · have hj : j < L r := by
                have := (List.getElem?_eq_some_iff.1 hu).1
                rw [U32_length, hlen] at this; exact this
              rw [hc j (by omega), U32_get hu, nth_eq (by rw [hlen]; exact hj)]
              have h3 := (wf_u32 (h5 ((Z r)[j]'(by omega)) (List.getElem_mem _))).1
              simp only [List.getElem_map, List.getElem_take, List.getD, List.getElem?_eq_getElem (show j < (Z r).length by omega), Option.getD_some]
              rw [Int.toNat_of_nonneg h3]
        · obtain ⟨z, hz1, rfl⟩ := List.mem_map.1 hy
          have := wf_u32 (h5 z (List.mem_of_mem_take hz1))
          omega
  clear hA0 hval0
  refine (natSums_walk A0 len0 cap0 _ L V W hE0 (by omega)).mono fun e W' ⟨he, bel⟩ => ?_
  subst he
  exact ⟨_, rfl, _, _, _, [], _, [], hW', trodAll_mk1 (shut_bool Try.underlying4 _), (trodAll_cons_mk (Below.trod laid_out (by kernel_rfl) (of_decide_eq_true (by kernel_rfl)) k0 bel lt0) trodAll_mk0), rfl, bel.frame _, fun h => by cases h⟩

theorem over : Rows.natSumsRow.holds Try.pinned (OpenSpec.ofChange Rows.natSumsSpec) :=
  OpenClaim.holds_of_wide 5 Try.f5 rfl rfl rfl rfl rfl rfl rfl ⟨rfl, rfl, rfl, rfl, rfl⟩ rfl rfl rfl rfl rfl (by kernel_rfl) Try.func5 (by kernel_rfl)
    (of_decide_eq_true (by kernel_rfl)) (by unfold Func.isWrapper; first | (rw [if_pos (by decide +kernel)]; kernel_rfl) | (rw [if_neg (by decide +kernel)]; exact ⟨rfl, rfl⟩))
    (fun os started H enc _ => lifted os started H enc)

theorem proved : Rows.NatSumsSaid := over
#print axioms proved
end Go.Proofs.Ytnpokifmknepoaa.natSums
