/-
'a, b := rats(x), rats(y)': the operations of that region.
Rats and the reference's fractions as values; the numbers of a law's array.
The reference of layer 5: Cmp; the law's own of.
Words for RatCounts: a Rat and its fraction, stored; bounds of small fractions.
Operations of regions: an element of a slice, and what is at an address.
Rows of Rats in memory: what keeps them, loads and stores of their elements.
What a make of a row of numbers or bools comes to, over this seat's tables.
Making, copying and writing rows of Rats; contract of simplex.zeros.
Contract of simplex.combined. Regions printed by gen/sx.py.
Plain: tableaux over the rationals, pivots, Bland's rule does not cycle.
-/
import Derived.Test.YtamcibmjpmibdaaK5
import Derived.Test.YtamcibmjpmibdaaK4
import Derived.IntWalk
import Derived.Test.YtamcibmjpmibdaaK1
import Derived.Laws.IdiomCopy
import Derived.Laws.CopyOwn
import Derived.WalkKit
namespace Go.Proofs.Ytamcibmjpmibdaa
open Go.RowKit

/-- A Rat of value x, in its normal form. -/
def Rv (b : Nat) (x : Rat) (v : Value) (w : World) : Prop := ∃ s A n c B m d, v = .agg #[.bool s, .slice A n c, .slice B m d] ∧ Rn w s A n c B m d b x
/-- A Rat of value x, in any form. -/
def Rw (b : Nat) (x : Rat) (v : Value) (w : World) : Prop := ∃ s A n c B m d, v = .agg #[.bool s, .slice A n c, .slice B m d] ∧ Ra w s A n c B m d b x
/-- A block that holds a Rat of value x. -/
def Bx (b : Nat) (x : Rat) (g : Nat) (w : World) : Prop := ∃ s A n c B m d, TB w g 41 (.bool s) (.slice A n c) (.slice B m d) ∧ Ra w s A n c B m d b x
/-- .. in its normal form. -/
def Bn (b : Nat) (x : Rat) (g : Nat) (w : World) : Prop := ∃ s A n c B m d, TB w g 41 (.bool s) (.slice A n c) (.slice B m d) ∧ Rn w s A n c B m d b x
section
variable {w w' : World} {b b' g : Nat} {x y : Rat} {v v' : Value}
theorem Rv.rw (h : Rv b x v w) : Rw b x v w := by obtain ⟨s, A, n, c, B, m, d, e, h⟩ := h; exact ⟨s, A, n, c, B, m, d, e, h.ra⟩
theorem Rv.new (h : Rv b x v w) (hb : Below w.heap.size w w') : Rv b x v w' := by obtain ⟨s, A, n, c, B, m, d, e, h⟩ := h; exact ⟨s, A, n, c, B, m, d, e, h.new hb⟩
theorem Rw.new (h : Rw b x v w) (hb : Below w.heap.size w w') : Rw b x v w' := by obtain ⟨s, A, n, c, B, m, d, e, h⟩ := h; exact ⟨s, A, n, c, B, m, d, e, h.new hb⟩
theorem Bx.new (h : Bx b x g w) (hb : Below w.heap.size w w') : Bx b x g w' := by obtain ⟨s, A, n, c, B, m, d, h1, h⟩ := h; exact ⟨s, A, n, c, B, m, d, h1.new hb, h.new hb⟩
theorem Bn.new (h : Bn b x g w) (hb : Below w.heap.size w w') : Bn b x g w' := by obtain ⟨s, A, n, c, B, m, d, h1, h⟩ := h; exact ⟨s, A, n, c, B, m, d, h1.new hb, h.new hb⟩
theorem Bx.lt (h : Bx b x g w) : g < w.heap.size := by obtain ⟨s, A, n, c, B, m, d, h1, h⟩ := h; exact h1.lt
theorem add_v (h : Rw b x v w) (h' : Rw b' y v' w) (hb : b + b' ≤ 4900) : Calls Try.prog 77 #[v, v'] w (RV w (Rv (b + b' + 1) (x + y))) := by
  obtain ⟨s, A, n, c, B, m, d, rfl, h⟩ := h
  obtain ⟨s', A', n', c', B', m', d', rfl, h'⟩ := h'
  refine (qadd_any h h' hb).mono ?_
  rintro e w1 ⟨s1, A1, n1, c1, B1, m1, d1, rfl, h1, hb1⟩
  exact ⟨_, rfl, ⟨s1, A1, n1, c1, B1, m1, d1, rfl, h1⟩, hb1⟩
theorem sub_v (h : Rw b x v w) (h' : Rw b' y v' w) (hb : b + b' ≤ 4900) : Calls Try.prog 93 #[v, v'] w (RV w (Rv (b + b' + 1) (x - y))) := by
  obtain ⟨s, A, n, c, B, m, d, rfl, h⟩ := h
  obtain ⟨s', A', n', c', B', m', d', rfl, h'⟩ := h'
  refine (qsub_any h h' hb).mono ?_
  rintro e w1 ⟨s1, A1, n1, c1, B1, m1, d1, rfl, h1, hb1⟩
  exact ⟨_, rfl, ⟨s1, A1, n1, c1, B1, m1, d1, rfl, h1⟩, hb1⟩
theorem mul_v (h : Rw b x v w) (h' : Rw b' y v' w) (hb : b + b' ≤ 4900) : Calls Try.prog 26 #[v, v'] w (RV w (Rv (b + b') (x * y))) := by
  obtain ⟨s, A, n, c, B, m, d, rfl, h⟩ := h
  obtain ⟨s', A', n', c', B', m', d', rfl, h'⟩ := h'
  refine (qmul_any h h' (by omega)).mono ?_
  rintro e w1 ⟨s1, A1, n1, c1, B1, m1, d1, rfl, h1, hb1⟩
  exact ⟨_, rfl, ⟨s1, A1, n1, c1, B1, m1, d1, rfl, h1⟩, hb1⟩
theorem neg_v (h : Rw b x v w) (hb : b ≤ 4900) : Calls Try.prog 24 #[v] w (RV w (Rv b (-x))) := by
  obtain ⟨s, A, n, c, B, m, d, rfl, h⟩ := h
  refine (qneg_any h (by omega)).mono ?_
  rintro e w1 ⟨s1, A1, n1, c1, B1, m1, d1, rfl, h1, hb1⟩
  exact ⟨_, rfl, ⟨s1, A1, n1, c1, B1, m1, d1, rfl, h1⟩, hb1⟩
theorem norm_v (h : Rw b x v w) (hb : b ≤ 4900) : Calls Try.prog 63 #[v] w (RV w (Rv b x)) := by
  obtain ⟨s, A, n, c, B, m, d, rfl, h⟩ := h
  refine (qnorm_any h (by omega)).mono ?_
  rintro e w1 ⟨s1, A1, n1, c1, B1, m1, d1, rfl, h1, hb1⟩
  exact ⟨_, rfl, ⟨s1, A1, n1, c1, B1, m1, d1, rfl, h1⟩, hb1⟩
theorem int_v (z : Int) (h1 : -9223372036854775808 ≤ z) (h2 : z ≤ 9223372036854775807) (w : World) : Calls Try.prog 25 #[.int .i64 z] w (RV w (Rv 2 (z : Rat))) := by
  refine (qint_any z h1 h2).mono ?_
  rintro e w1 ⟨s1, A1, n1, c1, B1, m1, d1, rfl, h1, hb1⟩
  exact ⟨_, rfl, ⟨s1, A1, n1, c1, B1, m1, d1, rfl, h1⟩, hb1⟩
theorem int_w (z : Int) (h1 : -9223372036854775808 ≤ z) (h2 : z ≤ 9223372036854775807) (v : Value) (hv : v = .int .i64 z) (w : World) : Calls Try.prog 25 #[v] w (RV w (Rv 2 (z : Rat))) := by
  subst hv; exact int_v z h1 h2 w
theorem cmp_v (h : Rw b x v w) (h' : Rw b' y v' w) (hb : b + b' ≤ 4900) : Calls Try.prog 17 #[v, v'] w (RV w (fun u _ => u = .int .i64 (rcq x y))) := by
  obtain ⟨s, A, n, c, B, m, d, rfl, h⟩ := h
  obtain ⟨s', A', n', c', B', m', d', rfl, h'⟩ := h'
  exact rv_one (qcmp_any h h' hb)
theorem sign_v (h : Rw b x v w) : Calls Try.prog 44 #[v] w (RV w (fun u _ => u = .int .i64 x.num.sign)) := by
  obtain ⟨s, A, n, c, B, m, d, rfl, h⟩ := h
  exact rv_one (sign_any h)
theorem div_v (h : Rw b x v w) (h' : Rw b' y v' w) (hb : b + b' ≤ 4900) (hy : y ≠ 0) : Calls Try.prog 92 #[v, v'] w (RV w (fun u w1 => ∃ q, u = .tuple #[q, .int .i64 0] ∧ Rv (b + b') (x / y) q w1)) := by
  obtain ⟨s, A, n, c, B, m, d, rfl, h⟩ := h
  obtain ⟨s', A', n', c', B', m', d', rfl, h'⟩ := h'
  refine (qdiv_any h h' (by omega)).mono ?_
  rintro e w1 ⟨-, hd⟩
  obtain ⟨s1, A1, n1, c1, B1, m1, d1, rfl, h1, hb1⟩ := hd hy
  exact ⟨_, rfl, ⟨_, rfl, s1, A1, n1, c1, B1, m1, d1, rfl, h1⟩, hb1⟩
end
/-- A load of a boxed Rat. -/
theorem load_bx {o : Oper} {a : Act} {w : World} {t : Tmp} {b g : Nat} {x : Rat} (ho : o.op = .load 41 (.tmp t)) (ht : tv a t = .pointer (some ⟨g, 0, none⟩)) (h : Bx b x g w) :
    gives Try.prog o a.eval w (fun v w' => Rw b x v w' ∧ Below w.heap.size w w') := by
  obtain ⟨s, A, n, c, B, m, d, h1, h⟩ := h
  exact gives_load_blk 41 (.tmp t) ho g 41 _ _ ht h1 Try.underlying41 rfl (by kernel_rfl) ⟨⟨s, A, n, c, B, m, d, rfl, h⟩, Below.refl _ _⟩
theorem load_bn {o : Oper} {a : Act} {w : World} {t : Tmp} {b g : Nat} {x : Rat} (ho : o.op = .load 41 (.tmp t)) (ht : tv a t = .pointer (some ⟨g, 0, none⟩)) (h : Bn b x g w) :
    gives Try.prog o a.eval w (fun v w' => Rv b x v w' ∧ Below w.heap.size w w') := by
  obtain ⟨s, A, n, c, B, m, d, h1, h⟩ := h
  exact gives_load_blk 41 (.tmp t) ho g 41 _ _ ht h1 Try.underlying41 rfl (by kernel_rfl) ⟨⟨s, A, n, c, B, m, d, rfl, h⟩, Below.refl _ _⟩
end Go.Proofs.Ytamcibmjpmibdaa
namespace Go.Proofs.Ytamcibmjpmibdaa
open Go.RowKit

/-- A new box for a Rat. -/
def Zx (B g : Nat) (w : World) : Prop := B ≤ g ∧ TB w g 41 (.bool false) (.slice none 0 0) (.slice none 0 0)
def Zb (B : Nat) (v : Value) (w : World) : Prop := ∃ g, v = .pointer (some ⟨g, 0, none⟩) ∧ Zx B g w
theorem Zb.new {B : Nat} {v : Value} {w w' : World} (h : Zb B v w) (hb : Below w.heap.size w w') : Zb B v w' := by
  obtain ⟨g, h1, h2, h3⟩ := h
  exact ⟨g, h1, h2, h3.new hb⟩
theorem alloc_rat {o : Oper} {a : Act} {w0 w : World} (ho : o.op = .alloc 41) (hb : Below w0.heap.size w0 w) : gives Try.prog o a.eval w (fun v w' => (Zb w0.heap.size v w' ∧ Below w.heap.size w w') ∧ Fresh v w w') := by
  have hr : (execOp a.eval o).run Try.prog w = .ok (.value (.pointer (some ⟨w.heap.size, 0, none⟩))) (w.alloc (.cells #[.bool false, .slice none 0 0, .slice none 0 0] 41)) := by
    unfold execOp
    rw [ho]
    go_simp
  unfold gives
  rw [hr]
  exact ⟨⟨⟨_, rfl, hb.size, TB.made _ _ _ _ _⟩, al _ _⟩, _, rfl, Nat.le_refl _, by simp⟩
/-- A quotient and no error. -/
def Dv (b : Nat) (x : Rat) (v : Value) (w : World) : Prop := ∃ q, v = .tuple #[q, .int .i64 0] ∧ Rv b x q w
theorem Dv.new {b : Nat} {x : Rat} {v : Value} {w w' : World} (h : Dv b x v w) (hb : Below w.heap.size w w') : Dv b x v w' := by
  obtain ⟨q, h1, h2⟩ := h
  exact ⟨q, h1, h2.new hb⟩
theorem ext_q {o : Oper} {a : Act} {w : World} {t : Tmp} {b : Nat} {x : Rat} (ho : o.op = .extract (.tmp t) 0) (h : Dv b x (tv a t) w) : gives Try.prog o a.eval w (fun v w' => Rv b x v w' ∧ Below w.heap.size w w') := by
  obtain ⟨q, h1, h2⟩ := h
  refine gives_val q ?_ ⟨h2, Below.refl _ _⟩
  unfold execOp
  rw [ho]
  simp only [eval_tmp, h1]
  go_simp
theorem ext_e {o : Oper} {a : Act} {w : World} {t : Tmp} {b : Nat} {x : Rat} (ho : o.op = .extract (.tmp t) 1) (h : Dv b x (tv a t) w) : gives Try.prog o a.eval w (fun v w' => v = .int .i64 0 ∧ Below w.heap.size w w') := by
  obtain ⟨q, h1, h2⟩ := h
  refine gives_val (.int .i64 0) ?_ ⟨rfl, Below.refl _ _⟩
  unfold execOp
  rw [ho]
  simp only [eval_tmp, h1]
  go_simp
theorem late_e {ops : Array Oper} {S : World → Prop} {o : Oper} {a : Act} {w : World} {t : Tmp} {b : Nat} {x : Rat} (ho : o.op = .extract (.tmp t) 1) (hg : o.guard = none) (h : Dv b x (tv a t) w) : Region.wanted o (yielded ops a.tmps) = true ∧ ∃ v, (∀ w', S w' → (execOp a.eval o).run Try.prog w' = .ok (.value v) w') ∧ v = .int .i64 0 := by
  obtain ⟨q, h1, h2⟩ := h
  refine ⟨by simp [Region.wanted, hg], .int .i64 0, fun w' _ => ?_, rfl⟩
  unfold execOp
  rw [ho]
  simp only [eval_tmp, h1]
  go_simp
theorem rw_zero (w : World) : Rw 1 0 (.agg #[.bool false, .slice none 0 0, .slice none 0 0]) w := ⟨_, _, _, _, _, _, _, rfl, 0, 0, nil_num' _ _ (by omega), nil_num' _ _ (by omega), (qv_zero _ _).symm⟩
section
variable {P : Program} {o : Oper} {a : Act} {w : World} {K : Value → World → Prop}
end
end Go.Proofs.Ytamcibmjpmibdaa
namespace Go.Proofs.Ytamcibmjpmibdaa
open Go.RowKit

def Win (z : Int) : Prop := -1048576 ≤ z ∧ z ≤ 1048576
instance (z : Int) : Decidable (Win z) := inferInstanceAs (Decidable (_ ∧ _))
section
variable {w w' : World} {g : Nat} {a b c d : Int}
end

end Go.Proofs.Ytamcibmjpmibdaa
namespace Go.Proofs.Ytamcibmjpmibdaa
open Go.RowKit

theorem frac_le (n d : Int) (hd : d ≠ 0) : ((n : Rat) / (d : Rat)).num.natAbs ≤ n.natAbs ∧ ((n : Rat) / (d : Rat)).den ≤ d.natAbs := by
  have h0 : d.natAbs ≠ 0 := by omega
  rw [← qv_frac n d hd, qv_abs h0, qv_den h0]
  exact ⟨Nat.div_le_self _ _, Nat.div_le_self _ _⟩
/-- A fraction of the reference. -/
def QL (x : Rat) : Value := .agg #[.int .i64 x.num, .int .i64 (x.den : Int)]
section
variable {o : Oper} {a : Act} {w : World} {t : Tmp} {g : Nat}
theorem load_i64 {p : Addr} {z : Int} (ho : o.op = .load 2 (.tmp t)) (hx : tv a t = .pointer (some p)) (hc : w.cell? p = some (.int .i64 z)) : gives Try.prog o a.eval w (fun u w' => u = .int .i64 z ∧ Below w.heap.size w w') := by
  refine gives_val (.int .i64 z) ?_ ⟨rfl, Below.refl _ _⟩
  unfold execOp; rw [ho]; simp only [eval_tmp, hx]; go_simp
end
end Go.Proofs.Ytamcibmjpmibdaa
namespace Go.Proofs.Ytamcibmjpmibdaa
open Go.RowKit
set_option linter.unusedSimpArgs false

/-- A fraction of small numbers. -/
def Sm (x : Rat) : Prop := x.num.natAbs ≤ 1073741824 ∧ x.den ≤ 1073741824
theorem mul_small {a b : Int} (ha : -1073741824 ≤ a ∧ a ≤ 1073741824) (hb : -1073741824 ≤ b ∧ b ≤ 1073741824) : -1152921504606846976 ≤ a * b ∧ a * b ≤ 1152921504606846976 := by
  have h : (a * b).natAbs ≤ 1073741824 * 1073741824 := by rw [Int.natAbs_mul]; exact Nat.mul_le_mul (by omega) (by omega)
  omega
theorem Sm.rng {x : Rat} (h : Sm x) : (-1073741824 ≤ x.num ∧ x.num ≤ 1073741824) ∧ (-1073741824 ≤ (x.den : Int) ∧ (x.den : Int) ≤ 1073741824) ∧ (x.den : Int) ≠ 0 := by
  have := x.den_nz; obtain ⟨h1, h2⟩ := h; omega
theorem self_frac (x : Rat) : ((x.num : Int) : Rat) / (((x.den : Nat) : Int) : Rat) = x := by
  have h := qv_frac x.num (x.den : Int) (by have := x.den_nz; omega)
  rw [show decide ((x.den : Int) < 0) = false by simp, show (decide (x.num < 0) != false) = decide (x.num < 0) by simp, Int.natAbs_natCast, qv_self] at h
  exact h.symm
theorem mul_frac (x y : Rat) : ((x.num * y.num : Int) : Rat) / (((x.den : Int) * (y.den : Int) : Int) : Rat) = x * y := by
  have h1 := self_frac x; have h2 := self_frac y
  have d1 : (((x.den : Nat) : Int) : Rat) ≠ 0 := by intro h; have := Rat.intCast_eq_zero_iff.1 h; have := x.den_nz; omega
  have d2 : (((y.den : Nat) : Int) : Rat) ≠ 0 := by intro h; have := Rat.intCast_eq_zero_iff.1 h; have := y.den_nz; omega
  rw [Rat.intCast_mul, Rat.intCast_mul]
  generalize ((x.num : Int) : Rat) = a at *; generalize ((y.num : Int) : Rat) = b at *
  generalize (((x.den : Nat) : Int) : Rat) = c at *; generalize (((y.den : Nat) : Int) : Rat) = d at *
  rw [← h1, ← h2]; grind
theorem add_frac (x y : Rat) : ((x.num * (y.den : Int) + y.num * (x.den : Int) : Int) : Rat) / (((x.den : Int) * (y.den : Int) : Int) : Rat) = x + y := by
  have h1 := self_frac x; have h2 := self_frac y
  have d1 : (((x.den : Nat) : Int) : Rat) ≠ 0 := by intro h; have := Rat.intCast_eq_zero_iff.1 h; have := x.den_nz; omega
  have d2 : (((y.den : Nat) : Int) : Rat) ≠ 0 := by intro h; have := Rat.intCast_eq_zero_iff.1 h; have := y.den_nz; omega
  rw [Rat.intCast_add, Rat.intCast_mul, Rat.intCast_mul, Rat.intCast_mul]
  generalize ((x.num : Int) : Rat) = a at *; generalize ((y.num : Int) : Rat) = b at *
  generalize (((x.den : Nat) : Int) : Rat) = c at *; generalize (((y.den : Nat) : Int) : Rat) = d at *
  rw [← h1, ← h2]; grind

set_option maxRecDepth 100000 in
set_option maxHeartbeats 2000000 in
theorem rmul_any {x y : Rat} (hx : Sm x) (hy : Sm y) (w : World) : Calls Try.prog 61 #[QL x, QL y] w fun e w' => e = .returned (QL (x * y)) ∧ Below w.heap.size w w' := by
  obtain ⟨a1, a2, a3⟩ := hx.rng; obtain ⟨b1, b2, b3⟩ := hy.rng
  have HL := Lib.hid (show ∀ W, Calls Try.prog 53 #[.int .i64 (x.num * y.num), .int .i64 ((x.den : Int) * (y.den : Int))] W fun e w' => e = .returned (.agg #[.int .i64 (x * y).num, .int .i64 ((x * y).den : Int)]) ∧ Below W.heap.size W w' from fun W => by
    have m1 := mul_small a1 b1; have m2 := mul_small a2 b2
    have := rlow_any (w := W) (x.num * y.num) ((x.den : Int) * (y.den : Int)) (by omega) (by omega) (by omega) (by omega) (Int.mul_ne_zero a3 b3)
    rw [mul_frac] at this
    exact this)
  have i1 : IntKind.i64.wrap (x.num * y.num) = x.num * y.num := IntWalk.i64_in _ (by have := mul_small a1 b1; omega)
  have i2 : IntKind.i64.wrap ((x.den : Int) * (y.den : Int)) = (x.den : Int) * (y.den : Int) := IntWalk.i64_in _ (by have := mul_small a2 b2; omega)
  unfold QL
  clear a1 a2 a3 b1 b2 b3 hx hy
  generalize (x * y).num = p1 at *; generalize ((x * y).den : Int) = p2 at *
  generalize x.num = xa at *; generalize (x.den : Int) = xb at *; generalize y.num = ya at *; generalize (y.den : Int) = yb at *
  go_enter Try.func61, Try.ntmps61
  go_wp2_with fail
  have hT : GB ((((w.alloc (.cells #[.int .i64 xa, .int .i64 xb] 58)).alloc (.cells #[.int .i64 ya, .int .i64 yb] 58)).alloc (.cells #[.int .i64 0, .int .i64 0] 58))) (w.heap.size + 2) 58 (.int .i64 0) (.int .i64 0) := by
    have := GB.made ((w.alloc (.cells #[.int .i64 xa, .int .i64 xb] 58)).alloc (.cells #[.int .i64 ya, .int .i64 yb] 58)) 58 (.int .i64 0) (.int .i64 0)
    simpa using this
  have hW : Below w.heap.size w (((w.alloc (.cells #[.int .i64 xa, .int .i64 xb] 58)).alloc (.cells #[.int .i64 ya, .int .i64 yb] 58)).alloc (.cells #[.int .i64 0, .int .i64 0] 58)) := ((al w _).alloc (by simp) _).alloc (by simp; omega) _
  generalize ((w.alloc (.cells #[.int .i64 xa, .int .i64 xb] 58)).alloc (.cells #[.int .i64 ya, .int .i64 yb] 58)).alloc (.cells #[.int .i64 0, .int .i64 0] 58) = w0 at hT hW ⊢
  refine (HL.out _).mono ?_
  rintro e w1 ⟨rfl, hb⟩
  have T := Lib.hid (hT.new hb); have HW := Lib.hid (bthen hW hb hW.size)
  clear hT hW hb
  have r0 := T.out.c0; have r1 := T.out.c1; have f0 := T.out.f0; have f1 := T.out.f1
  go_wp2_with fail
  refine bodyPost_ret (v := .agg #[.int .i64 p1, .int .i64 p2]) ?_ rfl ⟨rfl, (HW.out.setCell (p := ⟨w.heap.size + 2, 0, none⟩) (Nat.le_add_right _ _) _).setCell (p := ⟨w.heap.size + 2, 1, none⟩) (Nat.le_add_right _ _) _⟩
  exact results_cell_row Try.results61 _ _ _ _ _ (0, 0) _ rfl ((T.out.blk.set_ 0 _).set_ 1 _) Try.underlying58 rfl rfl
set_option maxRecDepth 100000 in
set_option maxHeartbeats 2000000 in
theorem radd_any {x y : Rat} (hx : Sm x) (hy : Sm y) (w : World) : Calls Try.prog 65 #[QL x, QL y] w fun e w' => e = .returned (QL (x + y)) ∧ Below w.heap.size w w' := by
  obtain ⟨a1, a2, a3⟩ := hx.rng; obtain ⟨b1, b2, b3⟩ := hy.rng
  have HL := Lib.hid (show ∀ W, Calls Try.prog 53 #[.int .i64 (x.num * (y.den : Int) + y.num * (x.den : Int)), .int .i64 ((x.den : Int) * (y.den : Int))] W fun e w' => e = .returned (.agg #[.int .i64 (x + y).num, .int .i64 ((x + y).den : Int)]) ∧ Below W.heap.size W w' from fun W => by
    have m1 := mul_small a1 b2; have m2 := mul_small a2 b2; have m3 := mul_small b1 a2
    have := rlow_any (w := W) (x.num * (y.den : Int) + y.num * (x.den : Int)) ((x.den : Int) * (y.den : Int)) (by omega) (by omega) (by omega) (by omega) (Int.mul_ne_zero a3 b3)
    rw [add_frac] at this
    exact this)
  have i1 : IntKind.i64.wrap (x.num * (y.den : Int)) = x.num * (y.den : Int) := IntWalk.i64_in _ (by have := mul_small a1 b2; omega)
  have i3 : IntKind.i64.wrap (y.num * (x.den : Int)) = y.num * (x.den : Int) := IntWalk.i64_in _ (by have := mul_small b1 a2; omega)
  have i2 : IntKind.i64.wrap ((x.den : Int) * (y.den : Int)) = (x.den : Int) * (y.den : Int) := IntWalk.i64_in _ (by have := mul_small a2 b2; omega)
  have i4 : IntKind.i64.wrap (x.num * (y.den : Int) + y.num * (x.den : Int)) = x.num * (y.den : Int) + y.num * (x.den : Int) := IntWalk.i64_in _ (by have := mul_small a1 b2; have := mul_small b1 a2; omega)
  unfold QL
  clear a1 a2 a3 b1 b2 b3 hx hy
  generalize (x + y).num = p1 at *; generalize ((x + y).den : Int) = p2 at *
  generalize x.num = xa at *; generalize (x.den : Int) = xb at *; generalize y.num = ya at *; generalize (y.den : Int) = yb at *
  go_enter Try.func65, Try.ntmps65
  go_wp2_with fail
  have hT : GB ((((w.alloc (.cells #[.int .i64 xa, .int .i64 xb] 58)).alloc (.cells #[.int .i64 ya, .int .i64 yb] 58)).alloc (.cells #[.int .i64 0, .int .i64 0] 58))) (w.heap.size + 2) 58 (.int .i64 0) (.int .i64 0) := by
    have := GB.made ((w.alloc (.cells #[.int .i64 xa, .int .i64 xb] 58)).alloc (.cells #[.int .i64 ya, .int .i64 yb] 58)) 58 (.int .i64 0) (.int .i64 0)
    simpa using this
  have hW : Below w.heap.size w (((w.alloc (.cells #[.int .i64 xa, .int .i64 xb] 58)).alloc (.cells #[.int .i64 ya, .int .i64 yb] 58)).alloc (.cells #[.int .i64 0, .int .i64 0] 58)) := ((al w _).alloc (by simp) _).alloc (by simp; omega) _
  generalize ((w.alloc (.cells #[.int .i64 xa, .int .i64 xb] 58)).alloc (.cells #[.int .i64 ya, .int .i64 yb] 58)).alloc (.cells #[.int .i64 0, .int .i64 0] 58) = w0 at hT hW ⊢
  refine (HL.out _).mono ?_
  rintro e w1 ⟨rfl, hb⟩
  have T := Lib.hid (hT.new hb); have HW := Lib.hid (bthen hW hb hW.size)
  clear hT hW hb
  have r0 := T.out.c0; have r1 := T.out.c1; have f0 := T.out.f0; have f1 := T.out.f1
  go_wp2_with fail
  refine bodyPost_ret (v := .agg #[.int .i64 p1, .int .i64 p2]) ?_ rfl ⟨rfl, (HW.out.setCell (p := ⟨w.heap.size + 2, 0, none⟩) (Nat.le_add_right _ _) _).setCell (p := ⟨w.heap.size + 2, 1, none⟩) (Nat.le_add_right _ _) _⟩
  exact results_cell_row Try.results65 _ _ _ _ _ (0, 0) _ rfl ((T.out.blk.set_ 0 _).set_ 1 _) Try.underlying58 rfl rfl
end Go.Proofs.Ytamcibmjpmibdaa
namespace Go.Proofs.Ytamcibmjpmibdaa
open Go.RowKit
set_option linter.unusedSimpArgs false

theorem rcq_num (x y : Rat) : rcq x y = if x.num * (y.den : Int) < y.num * (x.den : Int) then -1 else if y.num * (x.den : Int) < x.num * (y.den : Int) then 1 else 0 := by
  unfold rcq
  simp only [Rat.lt_iff]
set_option maxRecDepth 100000 in
set_option maxHeartbeats 2000000 in
theorem rcmp_any {x y : Rat} (hx : Sm x) (hy : Sm y) (w : World) : Calls Try.prog 56 #[QL x, QL y] w fun e w' => e = .returned (.int .i64 (rcq x y)) ∧ Below w.heap.size w w' := by
  obtain ⟨a1, a2, a3⟩ := hx.rng; obtain ⟨b1, b2, b3⟩ := hy.rng
  have HQ := Lib.hid (rcq_num x y)
  have k1 := mul_small a1 b2
  have k3 := mul_small b1 a2
  unfold QL
  clear a1 a2 a3 b1 b2 b3 hx hy
  generalize x.num = xa at *; generalize (x.den : Int) = xb at *; generalize y.num = ya at *; generalize (y.den : Int) = yb at *
  generalize rcq x y = r at *
  obtain ⟨P1, e1⟩ : ∃ p, p = xa * yb := ⟨_, rfl⟩
  obtain ⟨P2, e2⟩ : ∃ p, p = ya * xb := ⟨_, rfl⟩
  rw [← e1, ← e2] at HQ
  rw [← e1] at k1; rw [← e2] at k3
  replace k1 : -9223372036854775808 ≤ P1 ∧ P1 ≤ 9223372036854775807 := by omega
  replace k3 : -9223372036854775808 ≤ P2 ∧ P2 ≤ 9223372036854775807 := by omega
  have HK1 := Lib.hid k1; have HK3 := Lib.hid k3; have E1 := Lib.hid e1; have E2 := Lib.hid e2; clear k1 k3 e1 e2
  go_enter Try.func56, Try.ntmps56
  go_wp2_with fail
  have hT2 : GB ((w.alloc (.cells #[.int .i64 xa, .int .i64 xb] 58)).alloc (.cells #[.int .i64 ya, .int .i64 yb] 58)) w.heap.size 58 (.int .i64 xa) (.int .i64 xb) := (GB.made w _ _ _).alloc _
  have hT3 : GB ((w.alloc (.cells #[.int .i64 xa, .int .i64 xb] 58)).alloc (.cells #[.int .i64 ya, .int .i64 yb] 58)) (w.heap.size + 1) 58 (.int .i64 ya) (.int .i64 yb) := by
    have := GB.made (w.alloc (.cells #[.int .i64 xa, .int .i64 xb] 58)) 58 (.int .i64 ya) (.int .i64 yb)
    simpa using this
  have hW : Below w.heap.size w ((w.alloc (.cells #[.int .i64 xa, .int .i64 xb] 58)).alloc (.cells #[.int .i64 ya, .int .i64 yb] 58)) := (al w _).alloc (by simp) _
  generalize (w.alloc (.cells #[.int .i64 xa, .int .i64 xb] 58)).alloc (.cells #[.int .i64 ya, .int .i64 yb] 58) = w0 at hT2 hT3 hW ⊢
  have c0 := hT2.c0; have c1 := hT2.c1; have d0 := hT3.c0; have d1 := hT3.c1
  have HW := Lib.hid hW; clear hT2 hT3 hW
  go_quiet (fail)
  have k1 := HK1.out; have k3 := HK3.out; have e1 := E1.out; have e2 := E2.out; clear HK1 HK3 E1 E2
  rw [show wrap64 (xa * yb) = P1 from by rw [← e1]; exact IntWalk.wrap64_in P1 k1, show wrap64 (ya * xb) = P2 from by rw [← e2]; exact IntWalk.wrap64_in P2 k3]
  clear k1 k3 e1 e2
  by_cases h1 : P1 < P2
  · have HR := Lib.hid (show r = -1 by rw [HQ.out, if_pos h1])
    have t1 := decide_eq_true h1
    clear HQ h1
    go_wp2_with fail
    go_ret
    exact ⟨by rw [HR.out]; rfl, below_drewN HW.out _⟩
  · by_cases h2 : P2 < P1
    · have HR := Lib.hid (show r = 1 by rw [HQ.out, if_neg h1, if_pos h2])
      have t1 := decide_eq_false h1
      have t2 := decide_eq_true h2
      clear HQ h1 h2
      go_wp2_with fail
      go_ret
      exact ⟨by rw [HR.out]; rfl, below_drewN HW.out _⟩
    · have HR := Lib.hid (show r = 0 by rw [HQ.out, if_neg h1, if_neg h2])
      have t1 := decide_eq_false h1
      have t2 := decide_eq_false h2
      clear HQ h1 h2
      go_wp2_with fail
      go_ret
      exact ⟨by rw [HR.out]; rfl, below_drewN HW.out _⟩

/-- A block that holds a fraction of the reference. -/
def Qb (x : Rat) (g : Nat) (w : World) : Prop := GB w g 58 (.int .i64 x.num) (.int .i64 (x.den : Int))
theorem Qb.new {x : Rat} {g : Nat} {w w' : World} (h : Qb x g w) (hb : Below w.heap.size w w') : Qb x g w' := GB.new h hb
theorem load_qb {o : Oper} {a : Act} {w : World} {t : Tmp} {g : Nat} {x : Rat} (ho : o.op = .load 58 (.tmp t)) (ht : tv a t = .pointer (some ⟨g, 0, none⟩)) (h : Qb x g w) :
    gives Try.prog o a.eval w (fun v w' => v = QL x ∧ Below w.heap.size w w') :=
  gives_load_blk 58 (.tmp t) ho g 58 _ _ ht (GB.blk h) Try.underlying58 rfl (by kernel_rfl) ⟨rfl, Below.refl _ _⟩
theorem radd_v {x y : Rat} (hx : Sm x) (hy : Sm y) (v v' : Value) (hv : v = QL x) (hv' : v' = QL y) (w : World) : Calls Try.prog 65 #[v, v'] w (RV w (fun u _ => u = QL (x + y))) := by subst hv; subst hv'; exact rv_one (radd_any hx hy w)
theorem rmul_v {x y : Rat} (hx : Sm x) (hy : Sm y) (v v' : Value) (hv : v = QL x) (hv' : v' = QL y) (w : World) : Calls Try.prog 61 #[v, v'] w (RV w (fun u _ => u = QL (x * y))) := by subst hv; subst hv'; exact rv_one (rmul_any hx hy w)
theorem rcmp_v {x y : Rat} (hx : Sm x) (hy : Sm y) (v v' : Value) (hv : v = QL x) (hv' : v' = QL y) (w : World) : Calls Try.prog 56 #[v, v'] w (RV w (fun u _ => u = .int .i64 (rcq x y))) := by subst hv; subst hv'; exact rv_one (rcmp_any hx hy w)
end Go.Proofs.Ytamcibmjpmibdaa
namespace Go.Proofs.Ytamcibmjpmibdaa
open Go.RowKit
set_option linter.unusedSimpArgs false

/-- Two results that lie in memory. -/
theorem results_cell2 {P : Program} {fn : Func} {p q : Tmp} {t1 t2 : TypeId} (h : fn.results = #[.cell p t1, .cell q t2]) (tmps : Array Value) (w : World) (g1 g2 : Nat) (s1 s2 : TypeId) (c1 c2 : Array Value) (d1 d2 : TypeDesc)
    (hp : tmps.getD p undef = .pointer (some ⟨g1, 0, none⟩)) (hq : tmps.getD q undef = .pointer (some ⟨g2, 0, none⟩)) (h1 : Blk w g1 s1 c1) (h2 : Blk w g2 s2 c2)
    (u1 : P.underlying t1 = some d1) (v1 : (match d1 with | .struct _ | .array _ _ => true | _ => false) = true) (i1 : (P.info? t1).map (·.size) = some c1.size)
    (u2 : P.underlying t2 = some d2) (v2 : (match d2 with | .struct _ | .array _ _ => true | _ => false) = true) (i2 : (P.info? t2).map (·.size) = some c2.size) :
    (results fn tmps).run P w = .ok (.tuple #[.agg c1, .agg c2]) w := by
  have hp' : tmps[p]?.getD undef = .pointer (some ⟨g1, 0, none⟩) := by simpa using hp
  have hq' : tmps[q]?.getD undef = .pointer (some ⟨g2, 0, none⟩) := by simpa using hq
  simp [results, h, hp', hq', asAddr, run_loadVar_row w g1 s1 t1 c1 (0, 0) d1 h1 u1 v1 i1, run_loadVar_row w g2 s2 t2 c2 (0, 0) d2 h2 u2 v2 i2]
end Go.Proofs.Ytamcibmjpmibdaa
namespace Go.Proofs.Ytamcibmjpmibdaa
open Go.RowKit

/-- A new box for a fraction. -/
def Zq (B : Nat) (v : Value) (w : World) : Prop := ∃ g, v = .pointer (some ⟨g, 0, none⟩) ∧ B ≤ g ∧ GB w g 58 (.int .i64 0) (.int .i64 0)
theorem Zq.new {B : Nat} {v : Value} {w w' : World} (h : Zq B v w) (hb : Below w.heap.size w w') : Zq B v w' := by
  obtain ⟨g, h1, h2, h3⟩ := h
  exact ⟨g, h1, h2, h3.new hb⟩
theorem alloc_q {o : Oper} {a : Act} {w0 w : World} (ho : o.op = .alloc 58) (hb : Below w0.heap.size w0 w) : gives Try.prog o a.eval w (fun v w' => Zq w0.heap.size v w' ∧ Below w.heap.size w w') := by
  have hr : (execOp a.eval o).run Try.prog w = .ok (.value (.pointer (some ⟨w.heap.size, 0, none⟩))) (w.alloc (.cells #[.int .i64 0, .int .i64 0] 58)) := by
    unfold execOp
    rw [ho]
    go_simp
  unfold gives
  rw [hr]
  exact ⟨⟨_, rfl, hb.size, GB.made _ _ _ _⟩, al _ _⟩
/-- The denominator that of takes. -/
def den1 (d : Int) : Int := if d = 0 then 1 else d
theorem den1_ne (d : Int) : den1 d ≠ 0 := by unfold den1; split <;> omega
theorem den1_le {d : Int} (h : -1048576 ≤ d ∧ d ≤ 1048576) : -1048576 ≤ den1 d ∧ den1 d ≤ 1048576 := by unfold den1; split <;> omega
theorem sm_frac (n d : Int) (hn : -1048576 ≤ n ∧ n ≤ 1048576) (hd : -1048576 ≤ d ∧ d ≤ 1048576) : Sm (((n : Int) : Rat) / ((den1 d : Int) : Rat)) := by
  have h1 := frac_le n (den1 d) (den1_ne d)
  have h2 := den1_le hd
  unfold Sm; omega
end Go.Proofs.Ytamcibmjpmibdaa
namespace Go.Proofs.Ytamcibmjpmibdaa
open Go.RowKit
set_option linter.unusedSimpArgs false

section
variable {o : Oper} {a : Act} {w : World} {t : Tmp} {g : Nat}
end
section
variable {x y : Rat}
theorem Sm.neg (hx : Sm x) : Sm (-x) := by
  unfold Sm at *
  rw [Rat.neg_num, Rat.neg_den]
  omega
/-- The reciprocal, as the law writes it. -/
def recp (y : Rat) : Rat := ((y.den : Int) : Rat) / ((y.num : Int) : Rat)
theorem num_ne (h : y ≠ 0) : y.num ≠ 0 := fun h4 => h (Rat.num_eq_zero.1 h4)
theorem Sm.recp (hy : Sm y) (h : y ≠ 0) : Sm (recp y) := by
  have := frac_le (y.den : Int) y.num (num_ne h)
  unfold Sm at *
  show (((y.den : Int) : Rat) / ((y.num : Int) : Rat)).num.natAbs ≤ _ ∧ _
  unfold Go.Proofs.Ytamcibmjpmibdaa.recp
  omega
theorem neg_frac (y : Rat) : ((-y.num : Int) : Rat) / ((y.den : Int) : Rat) = -y := by
  have h2 := self_frac y
  rw [Rat.intCast_neg]
  generalize ((y.num : Int) : Rat) = c at *; generalize (((y.den : Nat) : Int) : Rat) = d at *
  rw [← h2]; grind
end
end Go.Proofs.Ytamcibmjpmibdaa
namespace Go.Proofs.Ytamcibmjpmibdaa
open Go.RowKit
section
variable {o : Oper} {a : Act} {w : World} {t u : Tmp}
theorem idx_es {ad : Addr} {n c k : Nat} (hk : k < n) (ho : o.op = .indexAddr 38 (.tmp t) (.tmp u)) (h : tv a t = .slice (some ad) n c) (h2 : tv a u = .int .i64 (k : Int)) : gives Try.prog o a.eval w (fun v w' => v = .pointer (some (ad.add k)) ∧ Below w.heap.size w w') := by
  refine gives_val (.pointer (some (ad.add k))) ?_ ⟨rfl, Below.refl _ _⟩
  have i1 : (0 : Int) ≤ (k : Int) := by omega
  have i2 : (k : Int) < (n : Int) := by omega
  unfold execOp; rw [ho]; simp only [eval_tmp, h, h2]; go_simp
theorem idx_xs {ad : Addr} {n c k : Nat} {y : Operand} (hk : k < n) (ho : o.op = .indexAddr 86 (.tmp t) y) (h : tv a t = .slice (some ad) n c) (h2 : a.eval y = .int .i64 (k : Int)) : gives Try.prog o a.eval w (fun v w' => v = .pointer (some (ad.add k)) ∧ Below w.heap.size w w') := by
  refine gives_val (.pointer (some (ad.add k))) ?_ ⟨rfl, Below.refl _ _⟩
  have i1 : (0 : Int) ≤ (k : Int) := by omega
  have i2 : (k : Int) < (n : Int) := by omega
  unfold execOp; rw [ho]; simp only [eval_tmp, h, h2]; go_simp
end
end Go.Proofs.Ytamcibmjpmibdaa
namespace Go.Proofs.Ytamcibmjpmibdaa
open Go.RowKit
set_option linter.unusedVariables false

/-- All digits stay where they are. -/
def KeepsN (w w' : World) : Prop := w.heap.size ≤ w'.heap.size ∧ ∀ (p : Addr) x, w.cell? p = some (.int .u32 x) → w'.cell? p = some (.int .u32 x)
theorem cell_lt {w : World} {p : Addr} {v : Value} (h : w.cell? p = some v) : p.block < w.heap.size := by
  rcases Nat.lt_or_ge p.block w.heap.size with h1 | h1
  · exact h1
  · have : w.heap[p.block]? = none := Array.getElem?_eq_none h1
    unfold World.cell? at h
    simp [this] at h
section
variable {w w' w'' : World}
theorem KeepsN.trans (h : KeepsN w w') (h' : KeepsN w' w'') : KeepsN w w'' := ⟨Nat.le_trans h.1 h'.1, fun p x hp => h'.2 p x (h.2 p x hp)⟩
theorem KeepsN.below (h : Below w.heap.size w w') : KeepsN w w' := ⟨h.size, fun p x hp => (h.cell (cell_lt hp)).trans hp⟩
theorem KeepsN.setCell {p : Addr} {v : Value} (hc : w.cell? p = some v) (hv : ∀ x, v ≠ .int .u32 x) (u : Value) : KeepsN w (w.setCell p u) := by
  refine ⟨by rw [size_setCell]; exact Nat.le_refl _, fun q x hq => ?_⟩
  rw [World.cell?_setCell_other w p q u]
  · exact hq
  · intro e
    rw [← e, hc] at hq
    cases hq
    exact hv _ rfl
theorem KeepsN.blk {g : Nat} {t : TypeId} {cs : Array Value} (hb : Blk w g t cs) {i : Nat} (hi : i < cs.size) (hv : ∀ x, cs[i]? ≠ some (.int .u32 x)) (u : Value) : KeepsN w (w.setCell ⟨g, i, none⟩ u) := by
  refine KeepsN.setCell (v := cs[i]) ?_ ?_ u
  · rw [hb.cell]; exact Array.getElem?_eq_getElem hi
  · intro x he
    exact hv x (by rw [Array.getElem?_eq_getElem hi, he])
theorem Es.keepN {A : Option Addr} {n : Nat} {es : List Nat} (h : Es w w.heap.size A n es) (k : KeepsN w w') : Es w' w'.heap.size A n es := by
  refine ⟨⟨h.1.1, fun hn => ?_⟩, h.2⟩
  obtain ⟨ad, rfl, hb, hx⟩ := h.1.2 hn
  refine ⟨ad, rfl, Nat.lt_of_lt_of_le hb k.1, fun j y hj => ?_⟩
  have h1 := hx j y hj
  have h2 := U32_get hj
  rw [h2] at h1 ⊢
  exact k.2 _ _ h1
theorem Num.keepN {A : Option Addr} {k c b N : Nat} (h : Num w A k c b N) (hk : KeepsN w w') : Num w' A k c b N := by
  obtain ⟨h1, h2, h3, h4, l, h5, h6⟩ := h
  exact ⟨h1, h2, h3, h4, l, h5.keepN hk, h6⟩
theorem Norm.keepN {A : Option Addr} {k N : Nat} (h : Norm w A k N) (hk : KeepsN w w') : Norm w' A k N := by
  obtain ⟨l, h5, h6⟩ := h
  exact ⟨l, h5.keepN hk, h6⟩
theorem Rv.keepN {b : Nat} {x : Rat} {v : Value} (h : Rv b x v w) (k : KeepsN w w') : Rv b x v w' := by
  obtain ⟨s, A, n, c, B, m, d, e, h1, ⟨h2, h3⟩, h4, h5⟩ := h
  exact ⟨s, A, n, c, B, m, d, e, h1, ⟨h2.keepN k, h3.keepN k⟩, h4.keepN k, h5.keepN k⟩
theorem Rw.keepN {b : Nat} {x : Rat} {v : Value} (h : Rw b x v w) (k : KeepsN w w') : Rw b x v w' := by
  obtain ⟨s, A, n, c, B, m, d, e, N, M, h1, h2, h3⟩ := h
  exact ⟨s, A, n, c, B, m, d, e, N, M, h1.keepN k, h2.keepN k, h3⟩
/-- A smaller bound. -/
theorem Rv.fit {b b' : Nat} {x : Rat} {v : Value} (h : Rv b x v w) (h1 : x.num.natAbs < PB b') (h2 : x.den < PB b') (h3 : 1 ≤ b') : Rv b' x v w := by
  obtain ⟨s, A, n, c, B, m, d, e, q1, ⟨⟨p1, p2, p3, p4, p5⟩, q2⟩, ⟨r1, r2, r3, r4, r5⟩, q3⟩ := h
  exact ⟨s, A, n, c, B, m, d, e, q1, ⟨⟨p1, h3, p3, h1, p5⟩, q2⟩, ⟨r1, h3, r3, h2, r5⟩, q3⟩
theorem Rw.agg {b : Nat} {x : Rat} {v : Value} (h : Rw b x v w) : ∃ s A n c B m d, v = .agg #[.bool s, .slice A n c, .slice B m d] := by
  obtain ⟨s, A, n, c, B, m, d, e, _⟩ := h; exact ⟨s, A, n, c, B, m, d, e⟩
end

/-- The cells of n Rats; P says what each holds. -/
def RL (P : Nat → Value → Prop) (n : Nat) (xs : List Value) : Prop := xs.length = n * 3 ∧ ∀ j, j < n → ∃ s A k c B m d, xs[j * 3]? = some (.bool s) ∧ xs[j * 3 + 1]? = some (.slice A k c) ∧ xs[j * 3 + 2]? = some (.slice B m d) ∧ P j (.agg #[.bool s, .slice A k c, .slice B m d])
theorem RL.mono {P Q : Nat → Value → Prop} {n : Nat} {xs : List Value} (h : RL P n xs) (hq : ∀ j v, j < n → P j v → Q j v) : RL Q n xs :=
  ⟨h.1, fun j hj => by obtain ⟨s, A, k, c, B, m, d, h0, h1, h2, h3⟩ := h.2 j hj; exact ⟨s, A, k, c, B, m, d, h0, h1, h2, hq j _ hj h3⟩⟩
theorem RL.app {P : Nat → Value → Prop} {n : Nat} {xs : List Value} {s : Bool} {A B : Option Addr} {k c m d : Nat} (h : RL P n xs) (hp : P n (.agg #[.bool s, .slice A k c, .slice B m d])) : RL P (n + 1) (xs ++ [.bool s, .slice A k c, .slice B m d]) := by
  refine ⟨by rw [List.length_append, h.1, Nat.add_mul]; rfl, fun j hj => ?_⟩
  have hl := h.1
  by_cases hjn : j < n
  · obtain ⟨s', A', k', c', B', m', d', h0, h1, h2, h3⟩ := h.2 j hjn
    exact ⟨s', A', k', c', B', m', d', by rw [List.getElem?_append_left (by omega)]; exact h0, by rw [List.getElem?_append_left (by omega)]; exact h1, by rw [List.getElem?_append_left (by omega)]; exact h2, h3⟩
  · obtain rfl : j = n := by omega
    exact ⟨s, A, k, c, B, m, d, by rw [List.getElem?_append_right (by omega), hl]; simp, by rw [List.getElem?_append_right (by omega), hl, Nat.add_sub_cancel_left]; rfl, by rw [List.getElem?_append_right (by omega), hl, Nat.add_sub_cancel_left]; rfl, hp⟩
theorem RL.clean {P : Nat → Value → Prop} {n : Nat} {xs : List Value} (h : RL P n xs) (i : Nat) (x : Int) : xs[i]? ≠ some (.int .u32 x) := by
  intro he
  have hi : i < n * 3 := by
    rcases Nat.lt_or_ge i xs.length with h4 | h4
    · have := h.1; omega
    · rw [List.getElem?_eq_none h4] at he; cases he
  obtain ⟨s, A, k, c, B, m, d, q0, q1, q2, q3⟩ := h.2 (i / 3) (by omega)
  have : i = i / 3 * 3 ∨ i = i / 3 * 3 + 1 ∨ i = i / 3 * 3 + 2 := by omega
  rcases this with h5 | h5 | h5
  · rw [h5, q0] at he; cases he
  · rw [h5, q1] at he; cases he
  · rw [h5, q2] at he; cases he
theorem RL.set {P Q : Nat → Value → Prop} {n j : Nat} {xs : List Value} {s : Bool} {A B : Option Addr} {k c m d : Nat} (h : RL P n xs) (hj : j < n) (hq : ∀ i v, i < n → i ≠ j → P i v → Q i v) (hv : Q j (.agg #[.bool s, .slice A k c, .slice B m d])) :
    RL Q n (((xs.set (j * 3) (.bool s)).set (j * 3 + 1) (.slice A k c)).set (j * 3 + 2) (.slice B m d)) := by
  refine ⟨by simp [h.1], fun i hi => ?_⟩
  have hl := h.1
  by_cases hij : i = j
  · subst hij
    exact ⟨s, A, k, c, B, m, d, by simp [List.getElem?_set]; omega, by simp [List.getElem?_set]; omega, by simp [List.getElem?_set]; omega, hv⟩
  · obtain ⟨s', A', k', c', B', m', d', h0, h1, h2, h3⟩ := h.2 i hi
    refine ⟨s', A', k', c', B', m', d', ?_, ?_, ?_, hq i _ hi hij h3⟩
    · rw [List.getElem?_set_ne (by omega), List.getElem?_set_ne (by omega), List.getElem?_set_ne (by omega)]; exact h0
    · rw [List.getElem?_set_ne (by omega), List.getElem?_set_ne (by omega), List.getElem?_set_ne (by omega)]; exact h1
    · rw [List.getElem?_set_ne (by omega), List.getElem?_set_ne (by omega), List.getElem?_set_ne (by omega)]; exact h2
/-- A slice of n Rats. -/
def Rs (w : World) (B : Nat) (A : Option Addr) (n : Nat) (P : Nat → Value → Prop) : Prop := ∃ xs, Reads w B 3 A n xs ∧ RL P n xs
/-- A block of n Rats. -/
def RB (w : World) (g : Nat) (n : Nat) (P : Nat → Value → Prop) : Prop := ∃ cs : Array Value, Blk w g 41 cs ∧ RL P n cs.toList
/-- Normal Rats, and Rats of any form. -/
def PN (w : World) (b : Nat) (f : Nat → Rat) (j : Nat) (v : Value) : Prop := Rv b (f j) v w
def PW (w : World) (b : Nat) (f : Nat → Rat) (j : Nat) (v : Value) : Prop := Rw b (f j) v w
section
variable {w w' : World} {B g n b : Nat} {A : Option Addr} {f : Nat → Rat} {P Q : Nat → Value → Prop}
theorem RB.lt (h : RB w g n P) : g < w.heap.size := by obtain ⟨cs, h1, _⟩ := h; exact h1.lt
theorem Rs.at_ (h : Rs w B A n P) {j : Nat} (hj : j < n) : ∃ ad s A0 k c B0 m d, A = some ad ∧ ad.block < B ∧ w.cell? (ad.add (j * 3)) = some (.bool s) ∧ w.cell? (ad.add (j * 3 + 1)) = some (.slice A0 k c) ∧ w.cell? (ad.add (j * 3 + 2)) = some (.slice B0 m d) ∧ P j (.agg #[.bool s, .slice A0 k c, .slice B0 m d]) := by
  obtain ⟨xs, ⟨h0, h1⟩, h2⟩ := h
  obtain ⟨s, A0, k, c, B0, m, d, q0, q1, q2, q3⟩ := h2.2 j hj
  obtain ⟨ad, e, hb, hc⟩ := h1 (by omega)
  exact ⟨ad, s, A0, k, c, B0, m, d, e, hb, hc _ _ q0, hc _ _ q1, hc _ _ q2, q3⟩
theorem addr_zero (g k : Nat) : (Addr.add ⟨g, 0, none⟩ k) = ⟨g, k, none⟩ := by unfold Addr.add; split <;> simp_all
theorem Rs.of_rb (h : RB w g n P) : Rs w w.heap.size (some ⟨g, 0, none⟩) n P := by
  obtain ⟨cs, h1, h2⟩ := h
  refine ⟨cs.toList, ⟨h2.1, fun _ => ⟨_, rfl, h1.lt, fun j u hu => ?_⟩⟩, h2⟩
  rw [addr_zero, h1.cell]; simpa using hu
theorem Rs.mono (h : Rs w B A n P) (hq : ∀ j v, j < n → P j v → Q j v) : Rs w B A n Q := by
  obtain ⟨xs, h1, h2⟩ := h; exact ⟨xs, h1, h2.mono hq⟩
theorem RB.mono (h : RB w g n P) (hq : ∀ j v, j < n → P j v → Q j v) : RB w g n Q := by
  obtain ⟨xs, h1, h2⟩ := h; exact ⟨xs, h1, h2.mono hq⟩
theorem PN.keep {j : Nat} {v : Value} (h : PN w b f j v) (k : KeepsN w w') : PN w' b f j v := Rv.keepN h k
theorem PW.keep {j : Nat} {v : Value} (h : PW w b f j v) (k : KeepsN w w') : PW w' b f j v := Rw.keepN h k
theorem Rs.below (h : Rs w w.heap.size A n P) (hb : Below w.heap.size w w') (hq : ∀ j v, j < n → P j v → Q j v) : Rs w' w'.heap.size A n Q := by
  obtain ⟨xs, h1, h2⟩ := h
  exact ⟨xs, (h1.below hb).more hb.size, h2.mono hq⟩
theorem Rs.newN (h : Rs w w.heap.size A n (PN w b f)) (hb : Below w.heap.size w w') : Rs w' w'.heap.size A n (PN w' b f) := h.below hb fun _ _ _ hv => PN.keep hv (KeepsN.below hb)
theorem Rs.newW (h : Rs w w.heap.size A n (PW w b f)) (hb : Below w.heap.size w w') : Rs w' w'.heap.size A n (PW w' b f) := h.below hb fun _ _ _ hv => PW.keep hv (KeepsN.below hb)
theorem Rs.toW (h : Rs w B A n (PN w b f)) : Rs w B A n (PW w b f) := h.mono fun _ _ _ hv => Rv.rw hv
theorem RB.below (h : RB w g n P) (hb : Below w.heap.size w w') (hq : ∀ j v, j < n → P j v → Q j v) : RB w' g n Q := by
  obtain ⟨cs, h1, h2⟩ := h
  exact ⟨cs, h1.below hb h1.lt, h2.mono hq⟩
theorem RB.newN (h : RB w g n (PN w b f)) (hb : Below w.heap.size w w') : RB w' g n (PN w' b f) := h.below hb fun _ _ _ hv => PN.keep hv (KeepsN.below hb)
/-- A store elsewhere. -/
theorem RB.far (h : RB w g n P) {p : Addr} (hp : g ≠ p.block) {u : Value} (hq : ∀ j v, j < n → P j v → Q j v) : RB (w.setCell p u) g n Q := by
  obtain ⟨cs, h1, h2⟩ := h
  exact ⟨cs, h1.far hp u, h2.mono hq⟩
theorem RB.new {n : Nat} (w : World) (cs : Array Value) (h : RL P n cs.toList) : RB (w.alloc (.cells cs 41)) w.heap.size n P := ⟨cs, Blk.new w _ _, h⟩
end
/-- A Rat is written into a row. -/
theorem store_row {o : Oper} {a : Act} {w : World} {t u : Tmp} {g n j b : Nat} {P : Nat → Value → Prop} {x : Rat} {v : Value} {K : Act → World → Prop} {Q : Exit → Act → World → Prop} (ho : o.op = .store 41 (.tmp t) (.tmp u)) (hd : o.dst = none) (ht : a.eval (.tmp t) = .pointer (some (Addr.add ⟨g, 0, none⟩ (j * 3)))) (hu : a.eval (.tmp u) = v)
    (hr : RB w g n P) (hj : j < n) (hv : Rw b x v w) (next : ∀ w', KeepsN w w' → w.grownBy w' (some g) → w'.heap.size = w.heap.size → (∀ R : Nat → Value → Prop, (∀ i u, i < n → i ≠ j → P i u → R i u) → R j v → RB w' g n R) → K a w') : o.wp Try.prog a w K Q := by
  obtain ⟨s, A, k, c, B, m, d, rfl⟩ := hv.agg
  obtain ⟨cs, h1, h2⟩ := hr
  have hsz : cs.size = n * 3 := by have := h2.1; simpa using this
  rw [addr_zero] at ht
  have e : w.setCells g (j * 3) [.bool s, .slice A k c, .slice B m d] = ((w.setCell ⟨g, j * 3, none⟩ (.bool s)).setCell ⟨g, j * 3 + 1, none⟩ (.slice A k c)).setCell ⟨g, j * 3 + 2, none⟩ (.slice B m d) := rfl
  have b1 := h1.set_ (j * 3) (.bool s)
  have b2 := b1.set_ (j * 3 + 1) (.slice A k c)
  have b3 := b2.set_ (j * 3 + 2) (.slice B m d)
  have cl : ∀ (i : Nat) x, cs[i]? ≠ some (.int .u32 x) := fun i x he => h2.clean i x (by simpa using he)
  have cl1 : ∀ (i : Nat) x, (cs.setIfInBounds (j * 3) (.bool s))[i]? ≠ some (.int .u32 x) := fun i x he => by
    rw [Array.getElem?_setIfInBounds] at he
    split at he
    · split at he <;> cases he
    · exact cl i x he
  have cl2 : ∀ (i : Nat) x, ((cs.setIfInBounds (j * 3) (.bool s)).setIfInBounds (j * 3 + 1) (.slice A k c))[i]? ≠ some (.int .u32 x) := fun i x he => by
    rw [Array.getElem?_setIfInBounds] at he
    split at he
    · split at he <;> cases he
    · exact cl1 i x he
  have kp : KeepsN w (w.setCells g (j * 3) [.bool s, .slice A k c, .slice B m d]) := by
    rw [e]
    exact ((KeepsN.blk h1 (by omega) (cl _) _).trans (KeepsN.blk b1 (by simp; omega) (cl1 _) _)).trans (KeepsN.blk b2 (by simp; omega) (cl2 _) _)
  refine wp_store_mid 41 (.tmp t) (.tmp u) ho g (j * 3) #[.bool s, .slice A k c, .slice B m d] ht hu (fun i hi => ⟨?_, h1.frozen _⟩) (by kernel_rfl) (by simp [Value.oneCell']) ?_
  · rw [h1.cell]
    have : i < 3 := by simpa using hi
    rw [Array.getElem?_eq_getElem (by omega)]; rfl
  · rw [hd]
    refine next _ kp (only_setCells _ _ _ (World.grownBy.refl w _)) (by show (w.setCells g (j * 3) [.bool s, .slice A k c, .slice B m d]).heap.size = _; rw [e, size_setCell, size_setCell, size_setCell]) (fun R hR hj' => ⟨_, b3, ?_⟩)
    have := h2.set hj hR hj'
    simpa using this
section
variable {o : Oper} {a : Act} {w : World} {t u : Tmp}
theorem idx_rs {ad : Addr} {n c k : Nat} {y : Operand} (hk : k < n) (ho : o.op = .indexAddr 28 (.tmp t) y) (h : tv a t = .slice (some ad) n c) (h2 : a.eval y = .int .i64 (k : Int)) : gives Try.prog o a.eval w (fun v w' => v = .pointer (some (ad.add (k * 3))) ∧ Below w.heap.size w w') := by
  refine gives_val (.pointer (some (ad.add (k * 3)))) ?_ ⟨rfl, Below.refl _ _⟩
  have i1 : (0 : Int) ≤ (k : Int) := by omega
  have i2 : (k : Int) < (n : Int) := by omega
  unfold execOp; rw [ho]; simp only [eval_tmp, h, h2]; go_simp
theorem run_load_rat (w : World) (p : Addr) (x y z : Value) (h0 : w.cell? p = some x) (h1 : w.cell? (p.add 1) = some y) (h2 : w.cell? (p.add 2) = some z) : (loadVar 41 p).run Try.prog w = .ok (.agg #[x, y, z]) w := by
  obtain ⟨i, hi, hz, hs1, hby⟩ := info_parts (P := Try.prog) (e := 41) (z := .agg #[.bool false, .slice none 0 0, .slice none 0 0]) (size := 3) (bytes := 56) (by kernel_rfl)
  have hl := run_loadCells_list (P := Try.prog) w p [x, y, z] (fun j v hv => by
    match j with
    | 0 => simp at hv; subst hv; simpa [Addr.add] using h0
    | 1 => simp at hv; subst hv; exact h1
    | 2 => simp at hv; subst hv; exact h2
    | j + 3 => simp at hv)
  have hagg : (isAgg 41).run Try.prog w = .ok true w := by
    unfold isAgg
    rw [Sem.run_bind, run_underlying Try.underlying41 w]
    rfl
  simp only [List.length_cons, List.length_nil, Nat.zero_add, Nat.reduceAdd] at hl
  simp [loadVar, Sem.run_bind, hagg, sizeOf, typeInfo, hi, hs1, hl]
/-- An element of a row is loaded. -/
theorem load_rs {B n j : Nat} {ad : Addr} {P : Nat → Value → Prop} (ho : o.op = .load 41 (.tmp t)) (hx : tv a t = .pointer (some (ad.add (j * 3)))) (h : Rs w B (some ad) n P) (hj : j < n) : gives Try.prog o a.eval w (fun v w' => P j v ∧ w' = w) := by
  obtain ⟨ad', s, A0, k, c, B0, m, d, e, hb, q0, q1, q2, q3⟩ := h.at_ hj
  injection e with e
  subst e
  rw [← add_of_add] at q1 q2
  have hl := run_load_rat w (ad.add (j * 3)) _ _ _ q0 q1 q2
  have h : (execOp a.eval o).run Try.prog w = .ok (.value (.agg #[.bool s, .slice A0 k c, .slice B0 m d])) w := by
    unfold execOp
    rw [ho]
    simp only [eval_tmp, hx, Instr.loadAt, Instr.sureAddr, Sem.run_bind, Sem.run_pure, Result.andThen_ok, hl]
  exact gives_val _ h ⟨q3, rfl⟩
theorem load_rn {B n j b : Nat} {f : Nat → Rat} {ad : Addr} (ho : o.op = .load 41 (.tmp t)) (hx : tv a t = .pointer (some (ad.add (j * 3)))) (h : Rs w B (some ad) n (PN w b f)) (hj : j < n) : gives Try.prog o a.eval w (fun v w' => Rv b (f j) v w' ∧ Below w.heap.size w w') :=
  gives_mono (load_rs ho hx h hj) (fun v w' ⟨h1, h2⟩ => by subst h2; exact ⟨h1, Below.refl _ _⟩)
theorem load_rw {B n j b : Nat} {f : Nat → Rat} {ad : Addr} (ho : o.op = .load 41 (.tmp t)) (hx : tv a t = .pointer (some (ad.add (j * 3)))) (h : Rs w B (some ad) n (PW w b f)) (hj : j < n) : gives Try.prog o a.eval w (fun v w' => Rw b (f j) v w' ∧ Below w.heap.size w w') :=
  gives_mono (load_rs ho hx h hj) (fun v w' ⟨h1, h2⟩ => by subst h2; exact ⟨h1, Below.refl _ _⟩)
theorem load_rp {B n j b : Nat} {x : Rat} {ad : Addr} {P : Nat → Value → Prop} (ho : o.op = .load 41 (.tmp t)) (hx : tv a t = .pointer (some (ad.add (j * 3)))) (h : Rs w B (some ad) n P) (hj : j < n) (hp : ∀ v, P j v → Rv b x v w) : gives Try.prog o a.eval w (fun v w' => Rv b x v w' ∧ Below w.heap.size w w') :=
  gives_mono (load_rs ho hx h hj) (fun v w' ⟨h1, h2⟩ => by subst h2; exact ⟨hp v h1, Below.refl _ _⟩)
end
end Go.Proofs.Ytamcibmjpmibdaa
namespace Go.Proofs.Ytamcibmjpmibdaa
open Go.RowKit
theorem info_int : (Try.prog.info? 3).map (fun i => (i.zero, i.size, i.bytes)) = some (some (.int .i64 0), 1, 8) := by kernel_rfl
section
variable {ops : Array Oper} {rest : List Oper} {o : Oper} {a : Act} {w : World} {Q : Exit → Act → World → Prop}
end
end Go.Proofs.Ytamcibmjpmibdaa
namespace Go.Proofs.Ytamcibmjpmibdaa
open Go.RowKit
set_option linter.unusedVariables false
set_option linter.unusedSimpArgs false

theorem info_rat : (Try.prog.info? 41).map (fun i => (i.zero, i.size, i.bytes)) = some (some (.agg #[.bool false, .slice none 0 0, .slice none 0 0]), 3, 56) := by kernel_rfl
theorem rl_made (n : Nat) (P : Nat → Value → Prop) (hp : ∀ j, j < n → P j (.agg #[.bool false, .slice none 0 0, .slice none 0 0])) : RL P n (madeCells #[.bool false, .slice none 0 0, .slice none 0 0] (n * 3)).toList := by
  refine ⟨by rw [Array.length_toList, size_madeCells], fun j hj => ⟨false, none, 0, 0, none, 0, 0, ?_, ?_, ?_, hp j hj⟩⟩
  · have h1 : j * 3 < n * 3 := by omega
    have h2 : j * 3 % 3 = 0 := by omega
    simp [madeCells, h1, h2]
  · have h1 : j * 3 + 1 < n * 3 := by omega
    have h2 : (j * 3 + 1) % 3 = 1 := by omega
    simp [madeCells, h1, h2]
  · have h1 : j * 3 + 2 < n * 3 := by omega
    have h2 : (j * 3 + 2) % 3 = 2 := by omega
    simp [madeCells, h1, h2]
/-- What makeSlice lays. -/
def zrow (n : Nat) : Array Value := madeCells #[.bool false, .slice none 0 0, .slice none 0 0] (n * 3)
theorem mk_rat (n : Nat) (hn : n ≤ 1000000) (W : World) : (Instr.makeSlice 28 (.int .i64 (n : Int)) (.int .i64 (n : Int))).run Try.prog W = .ok (.slice (some ⟨W.heap.size, 0, none⟩) n n) (W.alloc (.cells (zrow n) 41)) := by
  obtain ⟨i, hi, hz, hs, hb⟩ := info_parts info_rat
  have h := run_make_rowN (P := Try.prog) 28 41 i _ Try.underlying28 hi hz .i64 .i64 n n (Nat.le_refl _) (by rw [hb]; omega) (by omega) W
  rw [hs] at h
  exact h
theorem rb_zrow (w : World) (n : Nat) (P : Nat → Value → Prop) (hp : ∀ j, j < n → P j (.agg #[.bool false, .slice none 0 0, .slice none 0 0])) : RB (w.alloc (.cells (zrow n) 41)) w.heap.size n P := RB.new w _ (rl_made n P hp)
section
variable {ops : Array Oper} {rest : List Oper} {o : Oper} {a : Act} {w : World} {Q : Exit → Act → World → Prop}
theorem wpList_store_row {t u : Tmp} {g n j b : Nat} {P : Nat → Value → Prop} {x : Rat} {v : Value} (hgd : o.guard = none) (ho : o.op = .store 41 (.tmp t) (.tmp u)) (hd : o.dst = none) (ht : a.eval (.tmp t) = .pointer (some ⟨g, j * 3, none⟩)) (hu : a.eval (.tmp u) = v)
    (hr : RB w g n P) (hj : j < n) (hv : Rw b x v w) (next : ∀ w', KeepsN w w' → w.grownBy w' (some g) → w'.heap.size = w.heap.size → (∀ R : Nat → Value → Prop, (∀ i u, i < n → i ≠ j → P i u → R i u) → R j v → RB w' g n R) → wpList Try.prog ops Q rest a w') : wpList Try.prog ops Q (o :: rest) a w :=
  wpList_plain hgd fun _ hK => store_row ho hd (by rw [addr_zero]; exact ht) hu hr hj hv fun w' h1 h2 h3 h4 => hK _ _ (next w' h1 h2 h3 h4)
/-- copy(dst, src): a whole row of Rats into a block of its own. -/
theorem run_copy_rat (ty : TypeId) {g n dc sc : Nat} {ad : Addr} {cur : Array Value} {cs : List Value} (hg : Blk w g 41 cur) (hcur : cur.size = n * 3) (hcs : cs.length = n * 3) (hsrc : ∀ j v, cs[j]? = some v → w.cell? (ad.add j) = some v) (h1 : ∀ v ∈ cs, v.oneCell' = true) :
    (Builtin.copy_ #[28, 28] ty #[.slice (some ⟨g, 0, none⟩) n dc, .slice (some ad) n sc]).run Try.prog w = .ok (goInt n) (w.setRow g cs.toArray) := by
  have hl := run_loadCells_list (P := Try.prog) w ad cs hsrc
  have hst := run_storeCells_at Try.prog g 0 41 cs 0 cur w hg (by simp; omega) h1
  obtain ⟨i, hi, hz, hs, hb⟩ := info_parts info_rat
  have hd : cur.toList.drop cs.length = [] := List.drop_eq_nil_of_le (by simp; omega)
  simp [Builtin.copy_, run_underlying Try.underlying28, Builtin.lenOf, Builtin.firstCells, sizeOf, typeInfo, hi, hs, ← hcs, hl, hst, hd]
theorem wpList_copy_rat {d s : Operand} {g n dc sc : Nat} {ad : Addr} {P R : Nat → Value → Prop} {B : Nat} (hgd : o.guard = none) (ho : o.op = .call { callee := .builtin .copy, args := #[d, s], argTypes := #[28, 28] })
    (hd : a.eval d = .slice (some ⟨g, 0, none⟩) n dc) (hs : a.eval s = .slice (some ad) n sc) (hr : RB w g n P) (hsrc : Rs w B (some ad) n R) (hn : 0 < n)
    (next : ∀ w', KeepsN w w' → w.grownBy w' (some g) → w'.heap.size = w.heap.size → (∀ R' : Nat → Value → Prop, (∀ i u, i < n → R i u → R' i u) → RB w' g n R') → wpList Try.prog ops Q rest (a.put o.dst (goInt n)) w') : wpList Try.prog ops Q (o :: rest) a w := by
  obtain ⟨cur, hg, hcl⟩ := hr
  obtain ⟨cs, ⟨hcs, hrd⟩, hrl⟩ := hsrc
  obtain ⟨ad', e, hb, hc⟩ := hrd hn
  injection e with e
  subst e
  have hsz : cur.size = n * 3 := by have := hcl.1; simpa using this
  have hone : ∀ v ∈ cs, v.oneCell' = true := by
    intro v hv
    obtain ⟨i, hi⟩ := List.mem_iff_getElem?.1 hv
    have hil : i < n * 3 := by
      rcases Nat.lt_or_ge i cs.length with h4 | h4
      · omega
      · rw [List.getElem?_eq_none h4] at hi; cases hi
    obtain ⟨s', A', k', c', B', m', d', q0, q1, q2, _⟩ := hrl.2 (i / 3) (by omega)
    have : i = i / 3 * 3 ∨ i = i / 3 * 3 + 1 ∨ i = i / 3 * 3 + 2 := by omega
    rcases this with h5 | h5 | h5
    · rw [← h5, hi] at q0; injection q0 with q0; rw [q0]; rfl
    · rw [← h5, hi] at q1; injection q1 with q1; rw [q1]; rfl
    · rw [← h5, hi] at q2; injection q2 with q2; rw [q2]; rfl
  refine wpList_plain hgd fun K hK => ?_
  have hrun := run_copy_rat (w := w) o.type hg hsz hcs hc hone (dc := dc) (sc := sc)
  unfold Oper.wp
  simp only [execOp, ho, resolve, invoke, builtin, Sem.run_bind, Sem.run_pure, Result.andThen_ok, List.map_toArray, List.map_cons, List.map_nil, hd, hs, hrun]
  refine hK _ _ (next _ ⟨by simp [World.setRow], fun p x hp => ?_⟩ ⟨rfl, rfl, rfl, by simp [World.setRow], fun k hk hne => setRow_other w g k _ (fun e => hne (by rw [e]))⟩ (by simp [World.setRow]) (fun R' hR => ⟨cs.toArray, setRow_heap w g cur _ _ _ hg, by simpa using hrl.mono (fun j v hj hv => hR j v hj hv)⟩))
  have hne : p.block ≠ g := by
    intro he
    have hh : w.heap[g]? = some (.cells cur 41 (0, 0)) := hg
    unfold World.cell? at hp
    rw [he, hh] at hp
    simp only at hp
    split at hp
    · cases hp
    · exact hcl.clean p.off x (by simpa using hp)
  have hblk : (w.setRow g cs.toArray).heap[p.block]? = w.heap[p.block]? := setRow_other w g p.block _ hne
  exact (World.cell?_of_block hblk).trans hp
end
/-- A new row of zeros. -/
def ZRet (n : Nat) (w : World) (e : Ending) (w' : World) : Prop := ∃ g, e = .returned (.slice (some ⟨g, 0, none⟩) n n) ∧ w.heap.size ≤ g ∧ RB w' g n (PN w' 2 (fun _ => 0)) ∧ Below w.heap.size w w'
set_option maxRecDepth 100000 in
set_option maxHeartbeats 4000000 in
theorem zeros_any (n : Nat) (hn : n ≤ 1000) (w : World) : Calls Try.prog 71 #[.int .i64 n] w (ZRet n w) := by
  have hmk := mk_rat n (by omega)
  have H0 := Lib.hid (show RB (w.alloc (.cells (zrow n) 41)) w.heap.size n (fun i v => i < 0 → Rv 2 0 v (w.alloc (.cells (zrow n) 41))) from rb_zrow w n _ (fun _ _ h => absurd h (by omega)))
  have HB := Lib.hid (al w (.cells (zrow n) 41))
  go_enter Try.func71, Try.ntmps71
  go_wp2_with fail
  clear hmk
  generalize w.alloc (.cells (zrow n) 41) = W0 at *
  go_loopw [9] (fun i wr => ∃ k : Nat, i = .int .i64 k ∧ k ≤ n ∧ Hid (RB wr w.heap.size n (fun i v => i < k → Rv 2 0 v wr) ∧ Below w.heap.size w wr)) (fun i _ => n - (intOf i).toNat)
  case atStart => exact ⟨0, rfl, Nat.zero_le _, Lib.hid ⟨H0.out, HB.out⟩⟩
  case round =>
    obtain ⟨k, rfl, hk, HI⟩ := hrel
    by_cases hkn : k < n
    · have i1 : (0 : Int) ≤ (k : Int) := by omega
      have i2 : (k : Int) < (n : Int) := by omega
      go_wp2_with fail
      refine (int_v 0 (by omega) (by omega) _).mono ?_
      rintro e w1 ⟨v, rfl, hv, hb⟩
      have HV := Lib.hid hv
      have HR := Lib.hid (HI.out.1.below hb (Q := fun i v => i < k → Rv 2 0 v w1) (fun j v _ h hj => (h hj).new hb))
      have HB1 := Lib.hid (bthen HI.out.2 hb HI.out.2.size)
      clear hb hv
      have hgl := HR.out.lt
      go_wp2_with (refine wpList_store_row (g := w.heap.size) (j := k) (b := 2) (x := 0) rfl rfl rfl rfl rfl HR.out hkn HV.out.rw ?_; intro w2 kp hg hsz hR)
      refine ⟨⟨k + 1, by go_num, by omega, Lib.hid ⟨hR _ (fun i u _ hne h hi => (h (by omega)).keepN kp) (fun _ => HV.out.keepN kp), ?_⟩⟩, by simp [intOf]; omega⟩
      exact HB1.out.grown hg HB1.out.size (fun x hx => by cases hx; omega)
    · obtain rfl : n = k := by omega
      go_wp2_with fail
      go_ret
      exact ⟨_, rfl, Nat.le_refl _, HI.out.1.mono fun j v hj h => h hj, HI.out.2⟩
end Go.Proofs.Ytamcibmjpmibdaa
namespace Go.Proofs.Ytamcibmjpmibdaa
open Go.RowKit
set_option linter.unusedVariables false
set_option linter.unusedSimpArgs false

theorem sign_zero {x : Rat} (h : x = 0) : (x.num.sign == 0) = true := by subst h; rfl
theorem sign_ne {x : Rat} (h : x ≠ 0) : (x.num.sign == 0) = false := by
  rw [beq_eq_false_iff_ne]
  intro h1
  exact h (Rat.num_eq_zero.1 (Int.sign_eq_zero_iff_zero.1 h1))
theorem bne_of {x : Int} {b : Bool} (h : (x == 0) = b) : (x != 0) = !b := by rw [bne, h]
theorem Bx.kept {b g0 g : Nat} {x : Rat} {w w' : World} (h : Bx b x g0 w) (hg : w.grownBy w' (some g)) (hne : g0 ≠ g) (kp : KeepsN w w') : Bx b x g0 w' := by
  obtain ⟨s, A, n, c, B, m, d, h1, N, M, h2, h3, h4⟩ := h
  exact ⟨s, A, n, c, B, m, d, Blk.grown h1 hg (fun e => hne (by injection e)), N, M, h2.keepN kp, h3.keepN kp, h4⟩
/-- A new row with the values f. -/
def RowRetQ (n b : Nat) (f : Nat → Rat) (w : World) (e : Ending) (w' : World) : Prop := ∃ g, e = .returned (.slice (some ⟨g, 0, none⟩) n n) ∧ w.heap.size ≤ g ∧ RB w' g n (PN w' b f) ∧ Below w.heap.size w w'
theorem Rv.more {b b' : Nat} {x : Rat} {v : Value} {w : World} (h : Rv b x v w) (hb : b ≤ b') : Rv b' x v w := by
  obtain ⟨s, A, n, c, B, m, d, e, q1, ⟨h2, q2⟩, h3, q3⟩ := h
  exact ⟨s, A, n, c, B, m, d, e, q1, ⟨h2.more hb, q2⟩, h3.more hb, q3⟩
set_option maxRecDepth 100000 in
set_option maxHeartbeats 8000000 in
theorem combined_any (N b bq : Nat) (ad1 ad2 : Addr) (c1 c2 : Nat) (f g : Nat → Rat) (q : Rat) (v : Value) (w : World) (h1 : Rs w w.heap.size (some ad1) N (PN w b f)) (h2 : Rs w w.heap.size (some ad2) N (PN w b g)) (hq : Rw bq q v w) (hN : 0 < N) (hN2 : N ≤ 1000) (hb : 2 * b + bq ≤ 4800) (hbq : 1 ≤ bq) :
    Calls Try.prog 74 #[.slice (some ad1) N c1, .slice (some ad2) N c2, v] w (RowRetQ N (b + (bq + b) + 1) (fun j => f j - q * g j) w) := by
  obtain ⟨s, A, k0, c0, B, m0, d0, rfl, hqr⟩ := hq
  have HI1 := Lib.hid h1; have HI2 := Lib.hid h2
  clear h1 h2
  have hmk := mk_rat N (by omega)
  have HX0 := Lib.hid (show Bx bq q w.heap.size (w.alloc (.cells #[.bool s, .slice A k0 c0, .slice B m0 d0] 41)) from ⟨s, A, k0, c0, B, m0, d0, Blk.new w _ _, hqr.new (al w _)⟩)
  have HB0 := Lib.hid (bthen (al w (.cells #[.bool s, .slice A k0 c0, .slice B m0 d0] 41)) (al _ (.cells (zrow N) 41)) (by simp))
  have HZ0 := Lib.hid (rb_zrow (w.alloc (.cells #[.bool s, .slice A k0 c0, .slice B m0 d0] 41)) N (fun _ _ => True) (fun _ _ => trivial))
  have HX1 := Lib.hid (HX0.out.new (al _ (.cells (zrow N) 41)))
  clear HX0 hqr
  go_enter Try.func74, Try.ntmps74
  go_upto_region 2 with (fail)
  clear hmk
  rw [World.size_alloc] at HZ0
  generalize hW : (w.alloc (.cells #[.bool s, .slice A k0 c0, .slice B m0 d0] 41)).alloc (.cells (zrow N) 41) = W0 at *
  clear hW
  have HS := Lib.hid (HI1.out.newN HB0.out)
  go_upto_region 3 with (refine wpList_copy_rat (g := w.heap.size + 1) (n := N) rfl rfl rfl rfl HZ0.out HS.out hN ?_; intro w2 kp hg hsz hR)
  have HX := Lib.hid (HX1.out.kept hg (by omega) kp)
  have HB := Lib.hid (HB0.out.grown hg HB0.out.size (fun x hx => by cases hx; omega))
  have HRB := Lib.hid (hR (fun i u => Rv b (f i) u w2) (fun i u _ h => Rv.keepN h kp))
  have HO := Lib.hid (HI2.out.newN HB.out)
  clear hR kp hg hsz HX1 HZ0 HI1
  by_cases hq0 : q = 0
  · have hs0 := sign_zero hq0
    refine wp_region_seq (kss := [[], [(0, 15)], [(1, 16)]]) [(5, .pointer (some ⟨w.heap.size, 0, none⟩))] [Rw (bq) (q), EV (.int .i64 ((q).num.sign)), EV (.bool true)] (by kernel_rfl) ⟨rfl, trivial⟩ ?_ ?_ ?_
    · exact ⟨fun _ _ _ h hb => h.new hb, eI, eI, trivial⟩
    · refine ⟨?_, ?_, ?_, trivial⟩
      · exact fun aa ww hb he hd => ob_plain rfl (load_bx rfl he.1 (Bx.new HX.out hb))
      · exact fun aa ww hb he hd => ob_plain rfl (gives_call1 _ _ _ rfl (by kernel_rfl) (sign_v (hd.1)))
      · exact fun aa ww hb he hd => ob_plain rfl (gives_eq_int ((q).num.sign) 0 .i64 _ _ _ _ rfl hd.1 rfl ⟨congrArg Value.bool (hs0), Below.refl _ _⟩)
    intro vs w3 hb hR
    have e17 : vs 2 = .bool true := hR 2 (by decide)
    clear hR
    simp only [putsL, Nat.zero_add, Nat.reduceAdd, List.take_succ_cons, List.take_zero, Act.put, List.setIfInBounds_toArray, List.set_cons_zero, List.set_cons_succ]
    rw [e17]
    clear e17
    go_wp2_with fail
    go_ret
    have hfq : (fun j => f j - q * g j) = f := by funext j; rw [hq0]; grind
    rw [hfq]
    exact ⟨_, rfl, by omega, HRB.out.below hb (fun j u _ h => (h.new hb).more (by omega)), bthen HB.out hb HB.out.size⟩
  · have hs0 := sign_ne hq0
    refine wp_region_seq (kss := [[], [(0, 15)], [(1, 16)]]) [(5, .pointer (some ⟨w.heap.size, 0, none⟩))] [Rw (bq) (q), EV (.int .i64 ((q).num.sign)), EV (.bool false)] (by kernel_rfl) ⟨rfl, trivial⟩ ?_ ?_ ?_
    · exact ⟨fun _ _ _ h hb => h.new hb, eI, eI, trivial⟩
    · refine ⟨?_, ?_, ?_, trivial⟩
      · exact fun aa ww hb he hd => ob_plain rfl (load_bx rfl he.1 (Bx.new HX.out hb))
      · exact fun aa ww hb he hd => ob_plain rfl (gives_call1 _ _ _ rfl (by kernel_rfl) (sign_v (hd.1)))
      · exact fun aa ww hb he hd => ob_plain rfl (gives_eq_int ((q).num.sign) 0 .i64 _ _ _ _ rfl hd.1 rfl ⟨congrArg Value.bool (hs0), Below.refl _ _⟩)
    intro vs w3 hb hR
    have e17 : vs 2 = .bool false := hR 2 (by decide)
    clear hR
    simp only [putsL, Nat.zero_add, Nat.reduceAdd, List.take_succ_cons, List.take_zero, Act.put, List.setIfInBounds_toArray, List.set_cons_zero, List.set_cons_succ]
    rw [e17]
    clear e17
    have HBQ := Lib.hid (bthen HB.out hb HB.out.size)
    have HXQ := Lib.hid (HX.out.new hb)
    have HRQ := Lib.hid (HRB.out.below hb (Q := fun i u => (i < 0 → Rv (b + (bq + b) + 1) (f i - q * g i) u w3) ∧ (0 ≤ i → Rv b (f i) u w3)) (fun i u _ h => ⟨fun h0 => absurd h0 (by omega), fun _ => h.new hb⟩))
    clear hb HB HX HO HRB hs0
    go_wp2_with fail
    go_loopw [21] (fun i wr => ∃ k : Nat, i = .int .i64 k ∧ k ≤ N ∧ Hid (RB wr (w.heap.size + 1) N (fun i u => (i < k → Rv (b + (bq + b) + 1) (f i - q * g i) u wr) ∧ (k ≤ i → Rv b (f i) u wr)) ∧ Bx bq q w.heap.size wr ∧ Below w.heap.size w wr)) (fun i _ => N - (intOf i).toNat)
    case atStart => exact ⟨0, rfl, Nat.zero_le _, Lib.hid ⟨HRQ.out, HXQ.out, HBQ.out⟩⟩
    case round =>
      obtain ⟨k, rfl, hk, HI⟩ := hrel
      by_cases hkn : k < N
      · have HO := Lib.hid (HI2.out.newN HI.out.2.2)
        have HX := Lib.hid HI.out.2.1
        have HB := Lib.hid HI.out.2.2
        have HR := Lib.hid HI.out.1
        clear HI
        by_cases hz : g k = 0
        · have hs1 : ((g k).num.sign != 0) = false := by rw [bne_of (sign_zero hz)]; rfl
          go_upto_region 8 with (fail)
          refine wp_region_seq (kss := [[], [], [(0, 24), (1, 25)], [(2, 26)], [(3, 27)], [(4, 28)]]) [(1, .slice (some ad2) N c2), (8, .int .i64 ((k : Int)))] [EV (.slice (some ad2) N c2), EV (.int .i64 ((k : Int))), EV (.pointer (some (Addr.add ad2 (k * 3)))), Rv (b) (g k), EV (.int .i64 ((g k).num.sign)), EV (.bool false)] (by kernel_rfl) ⟨rfl, rfl, trivial⟩ ?_ ?_ ?_
          · exact ⟨eI, eI, eI, fun _ _ _ h hb => h.new hb, eI, eI, trivial⟩
          · refine ⟨?_, ?_, ?_, ?_, ?_, ?_, trivial⟩
            · exact fun _ _ _ he hd => ob_mv rfl rfl he.1
            · exact fun _ _ _ he hd => ob_mv rfl rfl he.2.1
            · exact fun aa ww hb he hd => ob_plain rfl (idx_rs (by omega) rfl hd.1 hd.2.1)
            · exact fun aa ww hb he hd => ob_plain rfl (load_rn rfl hd.1 (Rs.newN HO.out hb) (by omega))
            · exact fun aa ww hb he hd => ob_plain rfl (gives_call1 _ _ _ rfl (by kernel_rfl) (sign_v (hd.1.rw)))
            · exact fun aa ww hb he hd => ob_plain rfl (gives_ne_int ((g k).num.sign) 0 .i64 _ _ _ _ rfl hd.1 rfl ⟨congrArg Value.bool (hs1), Below.refl _ _⟩)
          intro vs w3 hb hR
          have e29 : vs 5 = .bool false := hR 5 (by decide)
          clear hR
          simp only [putsL, Nat.zero_add, Nat.reduceAdd, List.take_succ_cons, List.take_zero, Act.put, List.setIfInBounds_toArray, List.set_cons_zero, List.set_cons_succ]
          rw [e29]
          clear e29
          go_wp2_with fail
          refine ⟨⟨k + 1, by go_num, by omega, Lib.hid ⟨HR.out.below hb (fun i u _ h => ⟨fun hi => ?_, fun hi => (h.2 (by omega)).new hb⟩), HX.out.new hb, bthen HB.out hb HB.out.size⟩⟩, by simp [intOf]; omega⟩
          by_cases hik : i = k
          · subst hik
            have e : f i - q * g i = f i := by rw [hz]; grind
            rw [e]; exact ((h.2 (Nat.le_refl _)).more (by omega)).new hb
          · exact (h.1 (by omega)).new hb
        · have hs1 : ((g k).num.sign != 0) = true := by rw [bne_of (sign_ne hz)]; rfl
          go_upto_region 8 with (fail)
          refine wp_region_seq (kss := [[], [], [(0, 24), (1, 25)], [(2, 26)], [(3, 27)], [(4, 28)]]) [(1, .slice (some ad2) N c2), (8, .int .i64 ((k : Int)))] [EV (.slice (some ad2) N c2), EV (.int .i64 ((k : Int))), EV (.pointer (some (Addr.add ad2 (k * 3)))), Rv (b) (g k), EV (.int .i64 ((g k).num.sign)), EV (.bool true)] (by kernel_rfl) ⟨rfl, rfl, trivial⟩ ?_ ?_ ?_
          · exact ⟨eI, eI, eI, fun _ _ _ h hb => h.new hb, eI, eI, trivial⟩
          · refine ⟨?_, ?_, ?_, ?_, ?_, ?_, trivial⟩
            · exact fun _ _ _ he hd => ob_mv rfl rfl he.1
            · exact fun _ _ _ he hd => ob_mv rfl rfl he.2.1
            · exact fun aa ww hb he hd => ob_plain rfl (idx_rs (by omega) rfl hd.1 hd.2.1)
            · exact fun aa ww hb he hd => ob_plain rfl (load_rn rfl hd.1 (Rs.newN HO.out hb) (by omega))
            · exact fun aa ww hb he hd => ob_plain rfl (gives_call1 _ _ _ rfl (by kernel_rfl) (sign_v (hd.1.rw)))
            · exact fun aa ww hb he hd => ob_plain rfl (gives_ne_int ((g k).num.sign) 0 .i64 _ _ _ _ rfl hd.1 rfl ⟨congrArg Value.bool (hs1), Below.refl _ _⟩)
          intro vs w3 hb hR
          have e29 : vs 5 = .bool true := hR 5 (by decide)
          clear hR
          simp only [putsL, Nat.zero_add, Nat.reduceAdd, List.take_succ_cons, List.take_zero, Act.put, List.setIfInBounds_toArray, List.set_cons_zero, List.set_cons_succ]
          rw [e29]
          clear e29
          go_upto_region 9 with (fail)
          replace HO := Lib.hid (HO.out.newN hb); replace HX := Lib.hid (HX.out.new hb); replace HB := Lib.hid (bthen HB.out hb HB.out.size)
          have HR3 := Lib.hid (HR.out.below hb (Q := fun i u => (i < k → Rv (b + (bq + b) + 1) (f i - q * g i) u w3) ∧ (k ≤ i → Rv b (f i) u w3)) (fun i u _ h => ⟨fun hi => (h.1 hi).new hb, fun hi => (h.2 hi).new hb⟩))
          clear hb HR
          have HRW := Lib.hid (fun (ww : World) (hb : Below w3.heap.size w3 ww) => HR3.out.below hb (Q := fun i u => (i < k → Rv (b + (bq + b) + 1) (f i - q * g i) u ww) ∧ (k ≤ i → Rv b (f i) u ww)) (fun i u _ h => ⟨fun hi => (h.1 hi).new hb, fun hi => (h.2 hi).new hb⟩))
          have HE := Lib.hid (fun (ww : World) (hb : Below w3.heap.size w3 ww) => (Rs.of_rb (HRW.out ww hb)).mono (Q := fun i v => i = k → Rv b (f k) v ww) (fun j v _ h hj => by subst hj; exact h.2 (Nat.le_refl _)))
          refine wp_region_join (kss := [[], [], [], [], [(2, 32), (3, 33)], [(4, 34)], [], [], [], [(7, 37), (8, 38)], [(9, 39)], [(6, 36), (10, 40)], [(5, 35), (11, 41)], [(0, 30), (1, 31)]]) [(7, .slice (some (⟨w.heap.size + 1, 0, none⟩)) N N), (8, .int .i64 ((k : Int))), (5, .pointer (some ⟨w.heap.size, 0, none⟩)), (1, .slice (some ad2) N c2)] [EV (.slice (some (⟨w.heap.size + 1, 0, none⟩)) N N), EV (.int .i64 ((k : Int))), EV (.slice (some (⟨w.heap.size + 1, 0, none⟩)) N N), EV (.int .i64 ((k : Int))), EV (.pointer (some (Addr.add (⟨w.heap.size + 1, 0, none⟩) (k * 3)))), Rv (b) (f k), Rw (bq) (q), EV (.slice (some ad2) N c2), EV (.int .i64 ((k : Int))), EV (.pointer (some (Addr.add ad2 (k * 3)))), Rv (b) (g k), Rv (bq + b) (q * (g k)), Rv (b + (bq + b) + 1) ((f k) - (q * (g k))), EV (.pointer (some (Addr.add (⟨w.heap.size + 1, 0, none⟩) (k * 3))))] 14 [] (by kernel_rfl) (by kernel_rfl) ⟨rfl, rfl, rfl, rfl, trivial⟩ [false, false, false, false, false, false, false, false, false, false, false, false, false, false] ?_ ?_ ?_ ?_
          · exact fun i hi => absurd hi (by simp)
          · exact ⟨eI, eI, eI, eI, eI, fun _ _ _ h hb => h.new hb, fun _ _ _ h hb => h.new hb, eI, eI, eI, fun _ _ _ h hb => h.new hb, fun _ _ _ h hb => h.new hb, fun _ _ _ h hb => h.new hb, eI, trivial⟩
          · refine ⟨?_, ?_, ?_, ?_, ?_, ?_, ?_, ?_, ?_, ?_, ?_, ?_, ?_, ?_, trivial⟩
            · exact fun _ _ _ he hd => ob_mv rfl rfl he.1
            · exact fun _ _ _ he hd => ob_mv rfl rfl he.2.1
            · exact fun _ _ _ he hd => ob_mv rfl rfl he.1
            · exact fun _ _ _ he hd => ob_mv rfl rfl he.2.1
            · exact fun aa ww hb he hd => ob_plain rfl (idx_rs (by omega) rfl hd.1 hd.2.1)
            · exact fun aa ww hb he hd => ob_plain rfl (load_rp rfl hd.1 (HE.out _ hb) (by omega) (fun _ h => h rfl))
            · exact fun aa ww hb he hd => ob_plain rfl (load_bx rfl he.2.2.1 (Bx.new HX.out hb))
            · exact fun _ _ _ he hd => ob_mv rfl rfl he.2.2.2.1
            · exact fun _ _ _ he hd => ob_mv rfl rfl he.2.1
            · exact fun aa ww hb he hd => ob_plain rfl (idx_rs (by omega) rfl hd.1 hd.2.1)
            · exact fun aa ww hb he hd => ob_plain rfl (load_rn rfl hd.1 (Rs.newN HO.out hb) (by omega))
            · exact fun aa ww hb he hd => ob_plain rfl (gives_call2 _ _ _ _ rfl (by kernel_rfl) (mul_v (hd.1) (hd.2.1.rw) (by omega)))
            · exact fun aa ww hb he hd => ob_plain rfl (gives_call2 _ _ _ _ rfl (by kernel_rfl) (sub_v (hd.1.rw) (hd.2.1.rw) (by omega)))
            · exact fun aa ww hb he hd => ob_plain rfl (idx_rs (by omega) rfl hd.1 hd.2.1)
          intro vs w4 hb hR _
          have e43 : vs 13 = .pointer (some (Addr.add (⟨w.heap.size + 1, 0, none⟩) (k * 3))) := hR 13 (by decide)
          have r42 : Rv (b + (bq + b) + 1) ((f k) - (q * (g k))) (vs 12) w4 := hR 12 (by decide)
          clear hR
          simp only [putsL, Nat.zero_add, Nat.reduceAdd, List.take_succ_cons, List.take_zero, Act.put, List.setIfInBounds_toArray, List.set_cons_zero, List.set_cons_succ]
          rw [e43]
          clear e43
          show wpAny _ _ _ _ 1 _ _ _
          refine wpAny_next (i := 14) (by kernel_rfl) rfl rfl (store_row (v := vs 12) (g := w.heap.size + 1) (j := k) (b := b + (bq + b) + 1) (x := f k - q * g k) rfl rfl rfl rfl (HRW.out _ hb) hkn r42.rw ?_)
          intro w5 kp hg hsz hR
          refine wpAny_end (by kernel_rfl) (calm_normal ?_) _
          go_wp2_with fail
          have HB4 := Lib.hid (bthen HB.out hb HB.out.size)
          refine ⟨⟨k + 1, by go_num, by omega, Lib.hid ⟨hR _ (fun i u hi hne h => ⟨fun h1 => (h.1 (by omega)).keepN kp, fun h1 => (h.2 (by omega)).keepN kp⟩) ⟨fun _ => r42.keepN kp, fun h1 => absurd h1 (by omega)⟩, (HX.out.new hb).kept hg (by omega) kp, ?_⟩⟩, by simp [intOf]; omega⟩
          exact HB4.out.grown hg HB4.out.size (fun x hx => by cases hx; omega)
      · obtain rfl : N = k := by omega
        go_wp2_with fail
        go_ret
        exact ⟨_, rfl, by omega, HI.out.1.mono fun j v hj h => h.1 hj, HI.out.2.2⟩
end Go.Proofs.Ytamcibmjpmibdaa
namespace Go.Proofs.Ytamcibmjpmibdaa
set_option linter.unusedVariables false

/-- The sum of the first n values. -/
def sm (f : Nat → Rat) : Nat → Rat
  | 0 => 0
  | n + 1 => sm f n + f n
theorem sm_congr {f g : Nat → Rat} : ∀ {n : Nat}, (∀ i, i < n → f i = g i) → sm f n = sm g n
  | 0, _ => rfl
  | n + 1, h => by rw [sm, sm, sm_congr (fun i hi => h i (by omega)), h n (by omega)]
theorem sm_zero {f : Nat → Rat} : ∀ {n : Nat}, (∀ i, i < n → f i = 0) → sm f n = 0
  | 0, _ => rfl
  | n + 1, h => by rw [sm, sm_zero (fun i hi => h i (by omega)), h n (by omega)]; grind
theorem sm_add (f g : Nat → Rat) : ∀ n, sm (fun i => f i + g i) n = sm f n + sm g n
  | 0 => by simp only [sm]; grind
  | n + 1 => by simp only [sm]; rw [sm_add f g n]; grind
theorem sm_mul (a : Rat) (f : Nat → Rat) : ∀ n, sm (fun i => a * f i) n = a * sm f n
  | 0 => by simp [sm]
  | n + 1 => by simp only [sm]; rw [sm_mul a f n]; grind
theorem sm_sub (f g : Nat → Rat) (n : Nat) : sm (fun i => f i - g i) n = sm f n - sm g n := by
  have h1 := sm_add f (fun i => (-1) * g i) n
  rw [sm_mul] at h1
  rw [sm_congr (g := fun i => f i + (-1) * g i) (fun i _ => by grind), h1]; grind
theorem sm_one {f : Nat → Rat} {k : Nat} : ∀ {n : Nat}, k < n → (∀ i, i < n → i ≠ k → f i = 0) → sm f n = f k
  | 0, h, _ => by omega
  | n + 1, h, hz => by
    rw [sm]
    by_cases hk : k = n
    · subst hk
      rw [sm_zero (fun i hi => hz i (by omega) (by omega))]; grind
    · rw [sm_one (by omega) (fun i hi hne => hz i (by omega) hne), hz n (by omega) (Ne.symm hk)]; grind
theorem sm_swap (f : Nat → Nat → Rat) (m : Nat) : ∀ n, sm (fun i => sm (f i) m) n = sm (fun j => sm (fun i => f i j) n) m
  | 0 => by rw [sm, sm_zero]; intro i _; rfl
  | n + 1 => by
    rw [sm, sm_swap f m n, ← sm_add]
    exact sm_congr fun j _ => rfl
theorem sm_nonneg {f : Nat → Rat} : ∀ {n : Nat}, (∀ i, i < n → 0 ≤ f i) → 0 ≤ sm f n
  | 0, _ => by simp [sm]
  | n + 1, h => by
    rw [sm]
    have h1 := sm_nonneg (f := f) (n := n) (fun i hi => h i (by omega))
    have h2 := h n (by omega)
    grind
theorem sm_pos {f : Nat → Rat} : ∀ {n : Nat}, 0 < sm f n → ∃ i, i < n ∧ 0 < f i
  | 0, h => by simp [sm] at h
  | n + 1, h => by
    rw [sm] at h
    by_cases h1 : 0 < f n
    · exact ⟨n, by omega, h1⟩
    · obtain ⟨i, hi, h2⟩ := sm_pos (f := f) (n := n) (by grind)
      exact ⟨i, by omega, h2⟩
theorem sm_le {f g : Nat → Rat} {n : Nat} (h : ∀ i, i < n → f i ≤ g i) : sm f n ≤ sm g n := by
  have h1 := sm_nonneg (f := fun i => g i - f i) (n := n) (fun i hi => by have := h i hi; grind)
  rw [sm_sub] at h1
  grind

/-- A tableau: the rows, the reduced costs, the basic column of each row. -/
structure Tab where
  T : Nat → Nat → Rat
  G : Nat → Rat
  b : Nat → Nat
/-- Column k becomes the basic one of row r. -/
def Tab.piv (S : Tab) (r k : Nat) : Tab :=
  ⟨fun i j => if i = r then S.T r j / S.T r k else S.T i j - S.T i k * (S.T r j / S.T r k), fun j => S.G j - S.G k * (S.T r j / S.T r k), fun i => if i = r then k else S.b i⟩
/-- m rows, the right side in column R: the basic columns are unit columns. -/
structure Canon (m R : Nat) (S : Tab) : Prop where
  lt : ∀ i, i < m → S.b i < R
  unit : ∀ i l, i < m → l < m → S.T i (S.b l) = if i = l then 1 else 0
  goal : ∀ i, i < m → S.G (S.b i) = 0
section
variable {m R : Nat} {S S' S0 : Tab}
theorem Canon.inj (h : Canon m R S) {i l : Nat} (hi : i < m) (hl : l < m) (he : S.b i = S.b l) : i = l := by
  have h1 := h.unit i l hi hl
  have h2 := h.unit i i hi hi
  rw [← he, h2, if_pos rfl] at h1
  by_cases hil : i = l
  · exact hil
  · rw [if_neg hil] at h1; grind
theorem Canon.piv (h : Canon m R S) {r k : Nat} (hr : r < m) (hk : k < R) (hne : S.T r k ≠ 0) : Canon m R (S.piv r k) := by
  refine ⟨fun i hi => ?_, fun i l hi hl => ?_, fun i hi => ?_⟩
  · show (if i = r then k else S.b i) < R
    split
    · exact hk
    · exact h.lt i hi
  · show (if i = r then S.T r (if l = r then k else S.b l) / S.T r k else S.T i (if l = r then k else S.b l) - S.T i k * (S.T r (if l = r then k else S.b l) / S.T r k)) = if i = l then 1 else 0
    by_cases hlr : l = r
    · subst hlr
      rw [if_pos rfl]
      by_cases hil : i = l
      · rw [if_pos hil, if_pos hil]; grind
      · rw [if_neg hil, if_neg hil]; grind
    · rw [if_neg hlr]
      have h1 := h.unit r l hr hl
      rw [if_neg (Ne.symm hlr)] at h1
      by_cases hir : i = r
      · rw [if_pos hir, h1, if_neg (by rw [hir]; exact Ne.symm hlr)]; grind
      · rw [if_neg hir, h1, h.unit i l hi hl]; grind
  · show S.G (if i = r then k else S.b i) - S.G k * (S.T r (if i = r then k else S.b i) / S.T r k) = 0
    by_cases hir : i = r
    · rw [if_pos hir]; grind
    · rw [if_neg hir, h.goal i hi, h.unit r i hr hi, if_neg (Ne.symm hir)]; grind
/-- The rows of one are combinations of the rows of the other, and the reduced costs differ by a combination of rows. -/
structure Eqv (m R : Nat) (S S' : Tab) : Prop where
  row : ∃ L : Nat → Nat → Rat, ∀ i, i < m → ∀ j, j ≤ R → S'.T i j = sm (fun l => L i l * S.T l j) m
  goal : ∃ y : Nat → Rat, ∀ j, j ≤ R → S'.G j = S.G j + sm (fun l => y l * S.T l j) m
theorem Eqv.refl (m R : Nat) (S : Tab) : Eqv m R S S := by
  refine ⟨⟨fun i l => if i = l then 1 else 0, fun i hi j hj => ?_⟩, ⟨fun _ => 0, fun j hj => ?_⟩⟩
  · rw [sm_one hi (fun l hl hne => by dsimp only; rw [if_neg (Ne.symm hne)]; grind)]; dsimp only; rw [if_pos rfl]; grind
  · rw [sm_zero (fun l hl => by grind)]; grind
theorem Eqv.trans (h : Eqv m R S0 S) (h' : Eqv m R S S') : Eqv m R S0 S' := by
  obtain ⟨⟨L, hL⟩, ⟨y, hy⟩⟩ := h
  obtain ⟨⟨L', hL'⟩, ⟨y', hy'⟩⟩ := h'
  have key : ∀ (c : Nat → Rat) (j : Nat), j ≤ R → sm (fun l => c l * S.T l j) m = sm (fun q => sm (fun l => c l * L l q) m * S0.T q j) m := by
    intro c j hj
    rw [sm_congr (g := fun l => sm (fun q => c l * (L l q * S0.T q j)) m) (fun l hl => by rw [hL l hl j hj, sm_mul]), sm_swap]
    refine sm_congr fun q _ => ?_
    rw [sm_congr (g := fun l => S0.T q j * (c l * L l q)) (fun l _ => by grind), sm_mul]; grind
  refine ⟨⟨fun i q => sm (fun l => L' i l * L l q) m, fun i hi j hj => ?_⟩, ⟨fun q => y q + sm (fun l => y' l * L l q) m, fun j hj => ?_⟩⟩
  · rw [hL' i hi j hj]; exact key (L' i) j hj
  · rw [hy' j hj, hy j hj, key y' j hj, sm_congr (f := fun l => (y l + sm (fun q => y' q * L q l) m) * S0.T l j) (g := fun l => y l * S0.T l j + sm (fun q => y' q * L q l) m * S0.T l j) (fun l _ => by grind), sm_add]; grind
theorem Eqv.piv (h : Canon m R S) {r k : Nat} (hr : r < m) (hk : k < R) (hne : S.T r k ≠ 0) : Eqv m R S (S.piv r k) ∧ Eqv m R (S.piv r k) S := by
  constructor
  · refine ⟨⟨fun i l => if i = r then (if l = r then 1 / S.T r k else 0) else (if l = i then 1 else 0) + (if l = r then - (S.T i k / S.T r k) else 0), fun i hi j hj => ?_⟩, ⟨fun l => if l = r then - (S.G k / S.T r k) else 0, fun j hj => ?_⟩⟩
    · show (if i = r then S.T r j / S.T r k else S.T i j - S.T i k * (S.T r j / S.T r k)) = _
      by_cases hir : i = r
      · rw [if_pos hir, sm_one hr (fun l hl hlr => by (try dsimp only); rw [if_pos hir, if_neg hlr]; grind)]; (try dsimp only); rw [if_pos hir, if_pos rfl]; grind
      · rw [if_neg hir, sm_congr (g := fun l => (if l = i then 1 else 0) * S.T l j + (if l = r then - (S.T i k / S.T r k) else 0) * S.T l j) (fun l _ => by (try dsimp only); rw [if_neg hir]; grind), sm_add,
          sm_one (k := i) hi (fun l hl hli => by (try dsimp only); rw [if_neg hli]; grind), sm_one (k := r) hr (fun l hl hlr => by (try dsimp only); rw [if_neg hlr]; grind)]; (try dsimp only); rw [if_pos rfl, if_pos rfl]; grind
    · show S.G j - S.G k * (S.T r j / S.T r k) = _
      rw [sm_one hr (fun l hl hlr => by (try dsimp only); rw [if_neg hlr]; grind)]; (try dsimp only); rw [if_pos rfl]; grind
  · have e1 : ∀ j, (S.piv r k).T r j = S.T r j / S.T r k := fun j => by show (if r = r then _ else _) = _; rw [if_pos rfl]
    have e2 : ∀ i j, i ≠ r → (S.piv r k).T i j = S.T i j - S.T i k * (S.T r j / S.T r k) := fun i j hi => by show (if i = r then _ else _) = _; rw [if_neg hi]
    refine ⟨⟨fun i l => (if l = i then (if i = r then 0 else 1) else 0) + (if l = r then S.T i k else 0), fun i hi j hj => ?_⟩, ⟨fun l => if l = r then S.G k else 0, fun j hj => ?_⟩⟩
    · rw [sm_congr (g := fun l => (if l = i then (if i = r then 0 else 1) else 0) * (S.piv r k).T l j + (if l = r then S.T i k else 0) * (S.piv r k).T l j) (fun l _ => by grind), sm_add,
        sm_one (k := i) hi (fun l hl hli => by (try dsimp only); rw [if_neg hli]; grind), sm_one (k := r) hr (fun l hl hlr => by (try dsimp only); rw [if_neg hlr]; grind)]; (try dsimp only); rw [if_pos rfl, if_pos rfl, e1]
      by_cases hir : i = r
      · rw [if_pos hir, hir]; grind
      · rw [if_neg hir, e2 i j hir]; grind
    · rw [sm_one hr (fun l hl hlr => by (try dsimp only); rw [if_neg hlr]; grind)]; (try dsimp only); rw [if_pos rfl, e1]
      show S.G j = S.G j - S.G k * (S.T r j / S.T r k) + S.G k * (S.T r j / S.T r k)
      grind
/-- Rows and reduced costs of one tableau, read off at the basic columns of another. -/
theorem Eqv.read (hc : Canon m R S) (h : Eqv m R S S') : (∀ i, i < m → ∀ j, j ≤ R → S'.T i j = sm (fun l => S'.T i (S.b l) * S.T l j) m) ∧ ∀ j, j ≤ R → S'.G j = S.G j + sm (fun l => S'.G (S.b l) * S.T l j) m := by
  obtain ⟨⟨L, hL⟩, ⟨y, hy⟩⟩ := h
  have key : ∀ (c : Nat → Rat) l, l < m → sm (fun q => c q * S.T q (S.b l)) m = c l := fun c l hl => by
    rw [sm_one hl (fun q hq hne => by rw [hc.unit q l hq hl, if_neg hne]; grind), hc.unit l l hl hl, if_pos rfl]; grind
  constructor
  · intro i hi j hj
    rw [hL i hi j hj]
    refine sm_congr fun l hl => ?_
    rw [hL i hi _ (Nat.le_of_lt (hc.lt l hl)), key (L i) l hl]
  · intro j hj
    rw [hy j hj]
    congr 1
    refine sm_congr fun l hl => ?_
    rw [hy _ (Nat.le_of_lt (hc.lt l hl)), hc.goal l hl, key y l hl]; grind
/-- The tableau is known from its basic columns. -/
theorem Eqv.same (hc : Canon m R S) (hc' : Canon m R S') (h : Eqv m R S S') (σ : Nat → Nat) (hσ : ∀ i, i < m → σ i < m ∧ S'.b i = S.b (σ i)) (hs : ∀ l, l < m → ∃ i, i < m ∧ S'.b i = S.b l) :
    (∀ i, i < m → ∀ j, j ≤ R → S'.T i j = S.T (σ i) j) ∧ ∀ j, j ≤ R → S'.G j = S.G j := by
  obtain ⟨h1, h2⟩ := h.read hc
  constructor
  · intro i hi j hj
    obtain ⟨s1, s2⟩ := hσ i hi
    rw [h1 i hi j hj, sm_one (k := σ i) s1 (fun l hl hne => ?_), ← s2, hc'.unit i i hi hi, if_pos rfl]
    · grind
    · obtain ⟨q, hq, he⟩ := hs l hl
      rw [← he, hc'.unit i q hi hq, if_neg (fun h => hne ?_)]
      · grind
      · subst h
        exact (hc.inj s1 hl (s2.symm.trans he)).symm
  · intro j hj
    rw [h2 j hj, sm_zero (fun l hl => ?_)]
    · grind
    · obtain ⟨q, hq, he⟩ := hs l hl
      rw [← he, hc'.goal q hq]; grind
end
end Go.Proofs.Ytamcibmjpmibdaa
