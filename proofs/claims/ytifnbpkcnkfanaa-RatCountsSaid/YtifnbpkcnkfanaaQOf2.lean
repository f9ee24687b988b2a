/-
  'a, p := of(m, n)': the operations of that region.
-/
import Derived.Test.YtifnbpkcnkfanaaQOf
namespace Go.Proofs.Ytifnbpkcnkfanaa
open Go.RowKit

/-- A Rat and its fraction. -/
def OfV (x : Rat) (v : Value) (w : World) : Prop := ∃ q, v = .tuple #[q, QL x] ∧ Rv 2 x q w
theorem OfV.new {x : Rat} {v : Value} {w w' : World} (h : OfV x v w) (hb : Below w.heap.size w w') : OfV x v w' := by
  obtain ⟨q, h1, h2⟩ := h
  exact ⟨q, h1, h2.new hb⟩
theorem ext_o0 {o : Oper} {a : Act} {w : World} {t : Tmp} {x : Rat} (ho : o.op = .extract (.tmp t) 0) (h : OfV x (tv a t) w) : gives Try.prog o a.eval w (fun v w' => Rv 2 x v w' ∧ Below w.heap.size w w') := by
  obtain ⟨q, h1, h2⟩ := h
  refine gives_val q ?_ ⟨h2, Below.refl _ _⟩
  unfold execOp
  rw [ho]
  simp only [eval_tmp, h1]
  go_simp
theorem ext_o1 {o : Oper} {a : Act} {w : World} {t : Tmp} {x : Rat} (ho : o.op = .extract (.tmp t) 1) (h : OfV x (tv a t) w) : gives Try.prog o a.eval w (fun v w' => v = QL x ∧ Below w.heap.size w w') := by
  obtain ⟨q, h1, h2⟩ := h
  refine gives_val (QL x) ?_ ⟨rfl, Below.refl _ _⟩
  unfold execOp
  rw [ho]
  simp only [eval_tmp, h1]
  go_simp
/-- A new box for a fraction. -/
def Zq (B : Nat) (v : Value) (w : World) : Prop := ∃ g, v = .pointer (some ⟨g, 0, none⟩) ∧ B ≤ g ∧ GB w g 35 (.int .i64 0) (.int .i64 0)
theorem Zq.new {B : Nat} {v : Value} {w w' : World} (h : Zq B v w) (hb : Below w.heap.size w w') : Zq B v w' := by
  obtain ⟨g, h1, h2, h3⟩ := h
  exact ⟨g, h1, h2, h3.new hb⟩
theorem alloc_q {o : Oper} {a : Act} {w0 w : World} (ho : o.op = .alloc 35) (hb : Below w0.heap.size w0 w) : gives Try.prog o a.eval w (fun v w' => Zq w0.heap.size v w' ∧ Below w.heap.size w w') := by
  have hr : (execOp a.eval o).run Try.prog w = .ok (.value (.pointer (some ⟨w.heap.size, 0, none⟩))) (w.alloc (.cells #[.int .i64 0, .int .i64 0] 35)) := by
    unfold execOp
    rw [ho]
    go_simp
  unfold gives
  rw [hr]
  exact ⟨⟨_, rfl, hb.size, GB.made _ _ _ _⟩, al _ _⟩
/-- The denominator that of takes. -/
def den1 (d : Int) : Int := if d = 0 then 1 else d
theorem den1_ne (d : Int) : den1 d ≠ 0 := by unfold den1; split <;> omega
theorem den1_le {d : Int} (h : -1048576 ≤ d ∧ d ≤ 1048576) : -1048576 ≤ den1 d ∧ den1 d ≤ 1048576 := by unfold den1; split <;> omega
theorem of_v (n d : Int) (hn : -1048576 ≤ n ∧ n ≤ 1048576) (hd : -1048576 ≤ d ∧ d ≤ 1048576) (v v' : Value) (hv : v = .int .i64 n) (hv' : v' = .int .i64 d) (w : World) : Calls Try.prog 29 #[v, v'] w (RV w (OfV (((n : Int) : Rat) / ((den1 d : Int) : Rat)))) := by
  subst hv; subst hv'
  by_cases h : d = 0
  · subst h
    exact of_zero n hn w
  · have e : den1 d = d := if_neg h
    rw [e]
    exact of_pos n d hn hd h w
theorem sm_frac (n d : Int) (hn : -1048576 ≤ n ∧ n ≤ 1048576) (hd : -1048576 ≤ d ∧ d ≤ 1048576) : Sm (((n : Int) : Rat) / ((den1 d : Int) : Rat)) := by
  have h1 := frac_le n (den1 d) (den1_ne d)
  have h2 := den1_le hd
  unfold Sm; omega
end Go.Proofs.Ytifnbpkcnkfanaa
