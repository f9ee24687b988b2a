/-
  Rats as values: what each function answers, said of the value alone.
-/
import Derived.Test.YtifnbpkcnkfanaaRegU
import Derived.Test.YtifnbpkcnkfanaaQSame
import Derived.Test.YtifnbpkcnkfanaaQRats
import Derived.Test.YtifnbpkcnkfanaaQAwake
import Derived.Test.YtifnbpkcnkfanaaQCmp
namespace Go.Proofs.Ytifnbpkcnkfanaa
open Go.RowKit

/-- A Rat of value x, in its normal form. -/
def Rv (b : Nat) (x : Rat) (v : Value) (w : World) : Prop := ∃ s A n c B m d, v = .agg #[.bool s, .slice A n c, .slice B m d] ∧ Rn w s A n c B m d b x
/-- A Rat of value x, in any form. -/
def Rw (b : Nat) (x : Rat) (v : Value) (w : World) : Prop := ∃ s A n c B m d, v = .agg #[.bool s, .slice A n c, .slice B m d] ∧ Ra w s A n c B m d b x
/-- A block that holds a Rat of value x. -/
def Bx (b : Nat) (x : Rat) (g : Nat) (w : World) : Prop := ∃ s A n c B m d, TB w g 29 (.bool s) (.slice A n c) (.slice B m d) ∧ Ra w s A n c B m d b x
/-- .. in its normal form. -/
def Bn (b : Nat) (x : Rat) (g : Nat) (w : World) : Prop := ∃ s A n c B m d, TB w g 29 (.bool s) (.slice A n c) (.slice B m d) ∧ Rn w s A n c B m d b x
section
variable {w w' : World} {b b' g : Nat} {x y : Rat} {v v' : Value}
theorem Rv.rw (h : Rv b x v w) : Rw b x v w := by obtain ⟨s, A, n, c, B, m, d, e, h⟩ := h; exact ⟨s, A, n, c, B, m, d, e, h.ra⟩
theorem Rv.new (h : Rv b x v w) (hb : Below w.heap.size w w') : Rv b x v w' := by obtain ⟨s, A, n, c, B, m, d, e, h⟩ := h; exact ⟨s, A, n, c, B, m, d, e, h.new hb⟩
theorem Rw.new (h : Rw b x v w) (hb : Below w.heap.size w w') : Rw b x v w' := by obtain ⟨s, A, n, c, B, m, d, e, h⟩ := h; exact ⟨s, A, n, c, B, m, d, e, h.new hb⟩
theorem Bx.new (h : Bx b x g w) (hb : Below w.heap.size w w') : Bx b x g w' := by obtain ⟨s, A, n, c, B, m, d, h1, h⟩ := h; exact ⟨s, A, n, c, B, m, d, h1.new hb, h.new hb⟩
theorem Bn.new (h : Bn b x g w) (hb : Below w.heap.size w w') : Bn b x g w' := by obtain ⟨s, A, n, c, B, m, d, h1, h⟩ := h; exact ⟨s, A, n, c, B, m, d, h1.new hb, h.new hb⟩
theorem Bx.lt (h : Bx b x g w) : g < w.heap.size := by obtain ⟨s, A, n, c, B, m, d, h1, h⟩ := h; exact h1.lt
theorem Bn.bx (h : Bn b x g w) : Bx b x g w := by obtain ⟨s, A, n, c, B, m, d, h1, h⟩ := h; exact ⟨s, A, n, c, B, m, d, h1, h.ra⟩
theorem add_v (h : Rw b x v w) (h' : Rw b' y v' w) (hb : b + b' ≤ 4900) : Calls Try.prog 22 #[v, v'] w (RV w (Rv (b + b' + 1) (x + y))) := by
  obtain ⟨s, A, n, c, B, m, d, rfl, h⟩ := h
  obtain ⟨s', A', n', c', B', m', d', rfl, h'⟩ := h'
  refine (qadd_any h h' hb).mono ?_
  rintro e w1 ⟨s1, A1, n1, c1, B1, m1, d1, rfl, h1, hb1⟩
  exact ⟨_, rfl, ⟨s1, A1, n1, c1, B1, m1, d1, rfl, h1⟩, hb1⟩
theorem sub_v (h : Rw b x v w) (h' : Rw b' y v' w) (hb : b + b' ≤ 4900) : Calls Try.prog 26 #[v, v'] w (RV w (Rv (b + b' + 1) (x - y))) := by
  obtain ⟨s, A, n, c, B, m, d, rfl, h⟩ := h
  obtain ⟨s', A', n', c', B', m', d', rfl, h'⟩ := h'
  refine (qsub_any h h' hb).mono ?_
  rintro e w1 ⟨s1, A1, n1, c1, B1, m1, d1, rfl, h1, hb1⟩
  exact ⟨_, rfl, ⟨s1, A1, n1, c1, B1, m1, d1, rfl, h1⟩, hb1⟩
theorem mul_v (h : Rw b x v w) (h' : Rw b' y v' w) (hb : b + b' ≤ 4900) : Calls Try.prog 23 #[v, v'] w (RV w (Rv (b + b') (x * y))) := by
  obtain ⟨s, A, n, c, B, m, d, rfl, h⟩ := h
  obtain ⟨s', A', n', c', B', m', d', rfl, h'⟩ := h'
  refine (qmul_any h h' (by omega)).mono ?_
  rintro e w1 ⟨s1, A1, n1, c1, B1, m1, d1, rfl, h1, hb1⟩
  exact ⟨_, rfl, ⟨s1, A1, n1, c1, B1, m1, d1, rfl, h1⟩, hb1⟩
theorem neg_v (h : Rw b x v w) (hb : b ≤ 4900) : Calls Try.prog 25 #[v] w (RV w (Rv b (-x))) := by
  obtain ⟨s, A, n, c, B, m, d, rfl, h⟩ := h
  refine (qneg_any h (by omega)).mono ?_
  rintro e w1 ⟨s1, A1, n1, c1, B1, m1, d1, rfl, h1, hb1⟩
  exact ⟨_, rfl, ⟨s1, A1, n1, c1, B1, m1, d1, rfl, h1⟩, hb1⟩
theorem norm_v (h : Rw b x v w) (hb : b ≤ 4900) : Calls Try.prog 18 #[v] w (RV w (Rv b x)) := by
  obtain ⟨s, A, n, c, B, m, d, rfl, h⟩ := h
  refine (qnorm_any h (by omega)).mono ?_
  rintro e w1 ⟨s1, A1, n1, c1, B1, m1, d1, rfl, h1, hb1⟩
  exact ⟨_, rfl, ⟨s1, A1, n1, c1, B1, m1, d1, rfl, h1⟩, hb1⟩
theorem int_v (z : Int) (h1 : -9223372036854775808 ≤ z) (h2 : z ≤ 9223372036854775807) (w : World) : Calls Try.prog 15 #[.int .i64 z] w (RV w (Rv 2 (z : Rat))) := by
  refine (qint_any z h1 h2).mono ?_
  rintro e w1 ⟨s1, A1, n1, c1, B1, m1, d1, rfl, h1, hb1⟩
  exact ⟨_, rfl, ⟨s1, A1, n1, c1, B1, m1, d1, rfl, h1⟩, hb1⟩
theorem int_w (z : Int) (h1 : -9223372036854775808 ≤ z) (h2 : z ≤ 9223372036854775807) (v : Value) (hv : v = .int .i64 z) (w : World) : Calls Try.prog 15 #[v] w (RV w (Rv 2 (z : Rat))) := by
  subst hv; exact int_v z h1 h2 w
theorem cmp_v (h : Rw b x v w) (h' : Rw b' y v' w) (hb : b + b' ≤ 4900) : Calls Try.prog 28 #[v, v'] w (RV w (fun u _ => u = .int .i64 (rcq x y))) := by
  obtain ⟨s, A, n, c, B, m, d, rfl, h⟩ := h
  obtain ⟨s', A', n', c', B', m', d', rfl, h'⟩ := h'
  exact rv_one (qcmp_any h h' hb)
theorem sign_v (h : Rw b x v w) : Calls Try.prog 24 #[v] w (RV w (fun u _ => u = .int .i64 x.num.sign)) := by
  obtain ⟨s, A, n, c, B, m, d, rfl, h⟩ := h
  exact rv_one (sign_any h)
theorem same_v (h : Rv b x v w) (h' : Rv b' y v' w) : Calls Try.prog 21 #[v, v'] w (RV w (fun u _ => u = .bool (decide (x = y)))) := by
  obtain ⟨s, A, n, c, B, m, d, rfl, h⟩ := h
  obtain ⟨s', A', n', c', B', m', d', rfl, h'⟩ := h'
  by_cases hxy : x = y
  · rw [decide_eq_true hxy]; exact rv_one (same_true h h' hxy)
  · rw [decide_eq_false hxy]; exact rv_one (same_false h h' hxy)
theorem same_y (h : Rv b x v w) (h' : Rv b' y v' w) (hxy : x = y) : Calls Try.prog 21 #[v, v'] w (RV w (fun u _ => u = .bool true)) := by
  have := same_v h h'
  rw [decide_eq_true hxy] at this
  exact this
theorem div_v (h : Rw b x v w) (h' : Rw b' y v' w) (hb : b + b' ≤ 4900) (hy : y ≠ 0) : Calls Try.prog 27 #[v, v'] w (RV w (fun u w1 => ∃ q, u = .tuple #[q, .int .i64 0] ∧ Rv (b + b') (x / y) q w1)) := by
  obtain ⟨s, A, n, c, B, m, d, rfl, h⟩ := h
  obtain ⟨s', A', n', c', B', m', d', rfl, h'⟩ := h'
  refine (qdiv_any h h' (by omega)).mono ?_
  rintro e w1 ⟨-, hd⟩
  obtain ⟨s1, A1, n1, c1, B1, m1, d1, rfl, h1, hb1⟩ := hd hy
  exact ⟨_, rfl, ⟨_, rfl, s1, A1, n1, c1, B1, m1, d1, rfl, h1⟩, hb1⟩
theorem div_0 (h : Rw b x v w) (h' : Rw b' y v' w) (hb : b + b' ≤ 4900) (hy : y = 0) : Calls Try.prog 27 #[v, v'] w (RV w (fun u _ => u = .tuple #[.agg #[.bool false, .slice none 0 0, .slice none 0 0], .int .i64 18])) := by
  obtain ⟨s, A, n, c, B, m, d, rfl, h⟩ := h
  obtain ⟨s', A', n', c', B', m', d', rfl, h'⟩ := h'
  refine (qdiv_any h h' (by omega)).mono ?_
  rintro e w1 ⟨hd, -⟩
  obtain ⟨rfl, hb1⟩ := hd hy
  exact ⟨_, rfl, rfl, hb1⟩
theorem awake_v (w : World) : Calls Try.prog 11 #[] w (RV w (fun u _ => u = .bool true)) := rv_one (qawake_any w)
end
/-- A load of a boxed Rat. -/
theorem load_bx {o : Oper} {a : Act} {w : World} {t : Tmp} {b g : Nat} {x : Rat} (ho : o.op = .load 29 (.tmp t)) (ht : tv a t = .pointer (some ⟨g, 0, none⟩)) (h : Bx b x g w) :
    gives Try.prog o a.eval w (fun v w' => Rw b x v w' ∧ Below w.heap.size w w') := by
  obtain ⟨s, A, n, c, B, m, d, h1, h⟩ := h
  exact gives_load_blk 29 (.tmp t) ho g 29 _ _ ht h1 Try.underlying29 rfl (by kernel_rfl) ⟨⟨s, A, n, c, B, m, d, rfl, h⟩, Below.refl _ _⟩
theorem load_bn {o : Oper} {a : Act} {w : World} {t : Tmp} {b g : Nat} {x : Rat} (ho : o.op = .load 29 (.tmp t)) (ht : tv a t = .pointer (some ⟨g, 0, none⟩)) (h : Bn b x g w) :
    gives Try.prog o a.eval w (fun v w' => Rv b x v w' ∧ Below w.heap.size w w') := by
  obtain ⟨s, A, n, c, B, m, d, h1, h⟩ := h
  exact gives_load_blk 29 (.tmp t) ho g 29 _ _ ht h1 Try.underlying29 rfl (by kernel_rfl) ⟨⟨s, A, n, c, B, m, d, rfl, h⟩, Below.refl _ _⟩
theorem call_add : callsB Try.prog 22 = true := by kernel_rfl
theorem call_sub : callsB Try.prog 26 = true := by kernel_rfl
theorem call_mul : callsB Try.prog 23 = true := by kernel_rfl
theorem call_div : callsB Try.prog 27 = true := by kernel_rfl
theorem call_neg : callsB Try.prog 25 = true := by kernel_rfl
theorem call_norm : callsB Try.prog 18 = true := by kernel_rfl
theorem call_int : callsB Try.prog 15 = true := by kernel_rfl
theorem call_cmp : callsB Try.prog 28 = true := by kernel_rfl
theorem call_sign : callsB Try.prog 24 = true := by kernel_rfl
theorem call_same : callsB Try.prog 21 = true := by kernel_rfl
theorem call_awake : callsB Try.prog 11 = true := by kernel_rfl
theorem call_rats : callsB Try.prog 20 = true := by kernel_rfl
end Go.Proofs.Ytifnbpkcnkfanaa
