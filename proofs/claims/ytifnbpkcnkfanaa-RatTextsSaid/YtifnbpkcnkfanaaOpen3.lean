/-
  Arrays of three and of four numbers, opened to what the walks ask.
-/
import Derived.Test.YtifnbpkcnkfanaaOpen
import Derived.Laws.IdiomArrays
namespace Go.Proofs.Ytifnbpkcnkfanaa
open Go.ChangeShapes Go.WideShapes Go.ChangeAt Go.RowKit Go.Joins

section
variable {H : Type} {enc : TypeId × Value → H} {P : Program} {w : World} {base : Nat} {spare : Nat → Bool} {held : Bool}
theorem arr_3 {cs : Array Value} (h : cs.size = 3) : ∃ a b c, cs = #[a, b, c] := by
  obtain ⟨l⟩ := cs
  match l, h with
  | [a, b, c], _ => exact ⟨a, b, c, rfl⟩
theorem arr_4 {cs : Array Value} (h : cs.size = 4) : ∃ a b c d, cs = #[a, b, c, d] := by
  obtain ⟨l⟩ := cs
  match l, h with
  | [a, b, c, d], _ => exact ⟨a, b, c, d, rfl⟩
theorem open_arr3 {r : Reach} {b0 : Nat} {t e : TypeId} {k : IntKind} {v : Value} {d : DataW H} {p : List MemPlace} (ht : P.underlying t = some (.array 3 e)) (he : P.underlying e = some (.int k)) (hce : P.cellsOf e = 1) (hC : P.cellsOf t = 3)
    (hv : Value.okWide P w r b0 t v) (h : DataW.Trod enc P w base spare held t v d p) :
    ∃ a b c : Int, v = .agg #[.int k a, .int k b, .int k c] ∧ (Lit.int k a).wf = true ∧ (Lit.int k b).wf = true ∧ (Lit.int k c).wf = true := by
  simp only [Value.okWide, ht] at hv
  obtain ⟨cs, rfl, hsz, _⟩ := hv
  obtain ⟨c0, c1, c2, rfl⟩ := arr_3 (hsz.trans hC)
  obtain ⟨fuel, hf⟩ := h
  obtain ⟨y0, y1, y2, n, _, h0, h1, h2⟩ := trod_array3 ht hce hf
  obtain ⟨n0, f0, -, w0⟩ := DataW.trod_int he h0
  obtain ⟨n1, f1, -, w1⟩ := DataW.trod_int he h1
  obtain ⟨n2, f2, -, w2⟩ := DataW.trod_int he h2
  simp only [List.cons.injEq, and_true] at f0 f1 f2
  subst f0; subst f1; subst f2
  exact ⟨n0, n1, n2, rfl, w0, w1, w2⟩
theorem open_arr4 {r : Reach} {b0 : Nat} {t e : TypeId} {k : IntKind} {v : Value} {d : DataW H} {p : List MemPlace} (ht : P.underlying t = some (.array 4 e)) (he : P.underlying e = some (.int k)) (hce : P.cellsOf e = 1) (hC : P.cellsOf t = 4)
    (hv : Value.okWide P w r b0 t v) (h : DataW.Trod enc P w base spare held t v d p) :
    ∃ a b c e : Int, v = .agg #[.int k a, .int k b, .int k c, .int k e] ∧ (Lit.int k a).wf = true ∧ (Lit.int k b).wf = true ∧ (Lit.int k c).wf = true ∧ (Lit.int k e).wf = true := by
  simp only [Value.okWide, ht] at hv
  obtain ⟨cs, rfl, hsz, _⟩ := hv
  obtain ⟨c0, c1, c2, c3, rfl⟩ := arr_4 (hsz.trans hC)
  obtain ⟨fuel, hf⟩ := h
  obtain ⟨y0, y1, y2, y3, n, _, h0, h1, h2, h3⟩ := trod_array4 ht hce hf
  obtain ⟨n0, f0, -, w0⟩ := DataW.trod_int he h0
  obtain ⟨n1, f1, -, w1⟩ := DataW.trod_int he h1
  obtain ⟨n2, f2, -, w2⟩ := DataW.trod_int he h2
  obtain ⟨n3, f3, -, w3⟩ := DataW.trod_int he h3
  simp only [List.cons.injEq, and_true] at f0 f1 f2 f3
  subst f0; subst f1; subst f2; subst f3
  exact ⟨n0, n1, n2, n3, rfl, w0, w1, w2, w3⟩
end
end Go.Proofs.Ytifnbpkcnkfanaa
