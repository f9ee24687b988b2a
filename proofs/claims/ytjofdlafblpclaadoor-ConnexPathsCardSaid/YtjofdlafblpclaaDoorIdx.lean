/-
  Operations of regions: an element of a slice, and what is at an address.
-/
import Derived.Test.YtjofdlafblpclaaDoorRegG
namespace Go.Proofs.YtjofdlafblpclaaDoor
open Go.RowKit
section
variable {o : Oper} {a : Act} {w : World} {t u : Tmp}
theorem idx_es {ad : Addr} {n c k : Nat} (hk : k < n) (ho : o.op = .indexAddr 22 (.tmp t) (.tmp u)) (h : tv a t = .slice (some ad) n c) (h2 : tv a u = .int .i64 (k : Int)) : gives Tryd.prog o a.eval w (fun v w' => v = .pointer (some (ad.add k)) ∧ Below w.heap.size w w') := by
  refine gives_val (.pointer (some (ad.add k))) ?_ ⟨rfl, Below.refl _ _⟩
  have i1 : (0 : Int) ≤ (k : Int) := by omega
  have i2 : (k : Int) < (n : Int) := by omega
  unfold execOp; rw [ho]; simp only [eval_tmp, h, h2]; go_simp
theorem idx_bs {ad : Addr} {n c k : Nat} (hk : k < n) (ho : o.op = .indexAddr 74 (.tmp t) (.tmp u)) (h : tv a t = .slice (some ad) n c) (h2 : tv a u = .int .i64 (k : Int)) : gives Tryd.prog o a.eval w (fun v w' => v = .pointer (some (ad.add k)) ∧ Below w.heap.size w w') := by
  refine gives_val (.pointer (some (ad.add k))) ?_ ⟨rfl, Below.refl _ _⟩
  have i1 : (0 : Int) ≤ (k : Int) := by omega
  have i2 : (k : Int) < (n : Int) := by omega
  unfold execOp; rw [ho]; simp only [eval_tmp, h, h2]; go_simp
theorem load_u {p : Addr} {v : Value} (ho : o.op = .load 42 (.tmp t)) (hx : tv a t = .pointer (some p)) (hc : w.cell? p = some v) : gives Tryd.prog o a.eval w (fun z w' => z = v ∧ Below w.heap.size w w') := by
  refine gives_val v ?_ ⟨rfl, Below.refl _ _⟩
  unfold execOp; rw [ho]; simp only [eval_tmp, hx]; go_simp
theorem load_b {p : Addr} {v : Value} (ho : o.op = .load 4 (.tmp t)) (hx : tv a t = .pointer (some p)) (hc : w.cell? p = some v) : gives Tryd.prog o a.eval w (fun z w' => z = v ∧ Below w.heap.size w w') := by
  refine gives_val v ?_ ⟨rfl, Below.refl _ _⟩
  unfold execOp; rw [ho]; simp only [eval_tmp, hx]; go_simp
theorem idx_xs {ad : Addr} {n c k : Nat} {y : Operand} (hk : k < n) (ho : o.op = .indexAddr 33 (.tmp t) y) (h : tv a t = .slice (some ad) n c) (h2 : a.eval y = .int .i64 (k : Int)) : gives Tryd.prog o a.eval w (fun v w' => v = .pointer (some (ad.add k)) ∧ Below w.heap.size w w') := by
  refine gives_val (.pointer (some (ad.add k))) ?_ ⟨rfl, Below.refl _ _⟩
  have i1 : (0 : Int) ≤ (k : Int) := by omega
  have i2 : (k : Int) < (n : Int) := by omega
  unfold execOp; rw [ho]; simp only [eval_tmp, h, h2]; go_simp
end
end Go.Proofs.YtjofdlafblpclaaDoor
