/-
  Words for RatCounts: a Rat and its fraction, stored; bounds of small fractions.
-/
import Derived.Test.YtifnbpkcnkfanaaQOf2
namespace Go.Proofs.Ytifnbpkcnkfanaa
open Go.RowKit
set_option linter.unusedSimpArgs false

section
variable {o : Oper} {a : Act} {w : World} {t : Tmp} {g : Nat}
theorem fld_q0 (ho : o.op = .fieldAddr 35 (.tmp t) 0) (hx : tv a t = .pointer (some ⟨g, 0, none⟩)) : gives Try.prog o a.eval w (fun v w' => v = .pointer (some ⟨g, 0, none⟩) ∧ Below w.heap.size w w') := by
  refine gives_val (.pointer (some ⟨g, 0, none⟩)) ?_ ⟨rfl, Below.refl _ _⟩
  unfold execOp; rw [ho]; simp only [eval_tmp, hx]; go_simp
theorem fld_q1 (ho : o.op = .fieldAddr 35 (.tmp t) 1) (hx : tv a t = .pointer (some ⟨g, 0, none⟩)) : gives Try.prog o a.eval w (fun v w' => v = .pointer (some ⟨g, 1, none⟩) ∧ Below w.heap.size w w') := by
  refine gives_val (.pointer (some ⟨g, 1, none⟩)) ?_ ⟨rfl, Below.refl _ _⟩
  unfold execOp; rw [ho]; simp only [eval_tmp, hx]; go_simp
theorem gives_neg_i64 {P : Program} {K : Value → World → Prop} (i : Int) (t : TypeId) (x : Operand) (ho : o.op = .unOp .neg t x) (hx : a.eval x = .int .i64 i) (hb : -1048576 ≤ i ∧ i ≤ 1048576) (hK : K (.int .i64 (-i)) w) : gives P o a.eval w K := by
  refine gives_val _ ?_ hK
  have e : IntKind.i64.wrap (-i) = -i := IntWalk.i64_in _ (by omega)
  unfold execOp
  rw [ho]
  simp only [hx]
  go_simp
theorem ext_z0 (ho : o.op = .extract (.tmp t) 0) (h : tv a t = .tuple #[.agg #[.bool false, .slice none 0 0, .slice none 0 0], .int .i64 18]) : gives Try.prog o a.eval w (fun v w' => v = .agg #[.bool false, .slice none 0 0, .slice none 0 0] ∧ Below w.heap.size w w') := by
  refine gives_val (.agg #[.bool false, .slice none 0 0, .slice none 0 0]) ?_ ⟨rfl, Below.refl _ _⟩
  unfold execOp
  rw [ho]
  simp only [eval_tmp, h]
  go_simp
theorem store_zero {u : Tmp} {B : Nat} {K : Act → World → Prop} {Q : Exit → Act → World → Prop} (ho : o.op = .store 29 (.tmp t) (.tmp u)) (hd : o.dst = none) (ht : a.eval (.tmp t) = .pointer (some ⟨g, 0, none⟩)) (hu : a.eval (.tmp u) = .agg #[.bool false, .slice none 0 0, .slice none 0 0])
    (hz : Zx B g w) (next : ∀ w', TB w' g 29 (.bool false) (.slice none 0 0) (.slice none 0 0) → (∀ C W, C ≤ g → Below C W w → Below C W w') → K a w') : o.wp Try.prog a w K Q := by
  have hT := hz.2
  refine wp_store_mid 29 (.tmp t) (.tmp u) ho g 0 #[.bool false, .slice none 0 0, .slice none 0 0] ht hu (fun j hj => ⟨?_, hT.blk.frozen _⟩) (by kernel_rfl) (by simp [Value.oneCell']) ?_
  · rw [hT.blk.cell]
    have : j < 3 := by simpa using hj
    simp [this]
  · rw [hd]
    have e : w.setCells g 0 [.bool false, .slice none 0 0, .slice none 0 0] = ((w.setCell ⟨g, 0, none⟩ (.bool false)).setCell ⟨g, 1, none⟩ (.slice none 0 0)).setCell ⟨g, 2, none⟩ (.slice none 0 0) := rfl
    show K a (w.setCells g 0 [.bool false, .slice none 0 0, .slice none 0 0])
    rw [e]
    exact next _ (((hT.blk.set_ 0 _).set_ 1 _).set_ 2 _) (fun B W hB hb => below_store3 hb hB _ _ _)
end
/-- A Rat and its fraction, both stored. -/
theorem pair_world {w4 W : World} {g3 g4 C : Nat} {x : Rat} {y1 y2 y3 : Value} (rv : Rv 2 x (.agg #[y1, y2, y3]) w4) (hT : TB w4 g3 29 y1 y2 y3) (hQ : GB w4 g4 35 (.int .i64 0) (.int .i64 0)) (hne : g4 ≠ g3) (hb : Below C W w4) (hC : C ≤ g4) :
    (fun w5 => Bn 2 x g3 w5 ∧ Qb x g4 w5 ∧ Below C W w5) ((w4.setCell ⟨g4, 0, none⟩ (.int .i64 x.num)).setCell ⟨g4, 1, none⟩ (.int .i64 (x.den : Int))) := by
  have r1 := rv.setQ hQ (.int .i64 x.num) (.int .i64 (x.den : Int))
  have hT' := (hT.blk.far (p := ⟨g4, 0, none⟩) (Ne.symm hne) (.int .i64 x.num)).far (p := ⟨g4, 1, none⟩) (Ne.symm hne) (.int .i64 (x.den : Int))
  have hQ' := (hQ.blk.set_ 0 (.int .i64 x.num)).set_ 1 (.int .i64 (x.den : Int))
  have hW' := (hb.setCell (p := ⟨g4, 0, none⟩) hC (.int .i64 x.num)).setCell (p := ⟨g4, 1, none⟩) hC (.int .i64 (x.den : Int))
  refine ⟨?_, hQ', hW'⟩
  obtain ⟨s, A, n, c, B, m, d, he, h⟩ := r1
  simp only [Value.agg.injEq, Array.mk.injEq, List.cons.injEq, and_true] at he
  obtain ⟨rfl, rfl, rfl⟩ := he
  exact ⟨s, A, n, c, B, m, d, hT', h⟩
/-- A fraction, stored. -/
theorem q_world {w4 W : World} {g C : Nat} {x : Rat} (hQ : GB w4 g 35 (.int .i64 0) (.int .i64 0)) (hb : Below C W w4) (hC : C ≤ g) :
    (fun w5 => Qb x g w5 ∧ Below C W w5) ((w4.setCell ⟨g, 0, none⟩ (.int .i64 x.num)).setCell ⟨g, 1, none⟩ (.int .i64 (x.den : Int))) :=
  ⟨(hQ.blk.set_ 0 (.int .i64 x.num)).set_ 1 (.int .i64 (x.den : Int)), (hb.setCell (p := ⟨g, 0, none⟩) hC (.int .i64 x.num)).setCell (p := ⟨g, 1, none⟩) hC (.int .i64 (x.den : Int))⟩

section
variable {x y : Rat}
theorem Sm.mul_le (hx : Sm x) (hy : Sm y) : (x * y).num.natAbs ≤ 9223372036854775807 ∧ (x * y).den ≤ 9223372036854775807 := by
  obtain ⟨a1, a2, a3⟩ := hx.rng; obtain ⟨b1, b2, b3⟩ := hy.rng
  have m1 := mul_small a1 b1; have m2 := mul_small a2 b2
  have := frac_le (x.num * y.num) ((x.den : Int) * (y.den : Int)) (Int.mul_ne_zero a3 b3)
  rw [mul_frac] at this
  omega
theorem Sm.add_le (hx : Sm x) (hy : Sm y) : (x + y).num.natAbs ≤ 9223372036854775807 ∧ (x + y).den ≤ 9223372036854775807 := by
  obtain ⟨a1, a2, a3⟩ := hx.rng; obtain ⟨b1, b2, b3⟩ := hy.rng
  have m1 := mul_small a1 b2; have m2 := mul_small a2 b2; have m3 := mul_small b1 a2
  have := frac_le (x.num * (y.den : Int) + y.num * (x.den : Int)) ((x.den : Int) * (y.den : Int)) (Int.mul_ne_zero a3 b3)
  rw [add_frac] at this
  omega
theorem Sm.neg (hx : Sm x) : Sm (-x) := by
  unfold Sm at *
  rw [Rat.neg_num, Rat.neg_den]
  omega
theorem Sm.le (hx : Sm x) : x.num.natAbs ≤ 9223372036854775807 ∧ x.den ≤ 9223372036854775807 := by unfold Sm at *; omega
/-- The reciprocal, as the law writes it. -/
def recp (y : Rat) : Rat := ((y.den : Int) : Rat) / ((y.num : Int) : Rat)
theorem num_ne (h : y ≠ 0) : y.num ≠ 0 := fun h4 => h (Rat.num_eq_zero.1 h4)
theorem Sm.recp (hy : Sm y) (h : y ≠ 0) : Sm (recp y) := by
  have := frac_le (y.den : Int) y.num (num_ne h)
  unfold Sm at *
  show (((y.den : Int) : Rat) / ((y.num : Int) : Rat)).num.natAbs ≤ _ ∧ _
  unfold Go.Proofs.Ytifnbpkcnkfanaa.recp
  omega
theorem div_recp (h : y ≠ 0) : x / y = x * recp y := by
  have h2 := self_frac y
  have d2 : (((y.den : Nat) : Int) : Rat) ≠ 0 := by intro h; have := Rat.intCast_eq_zero_iff.1 h; have := y.den_nz; omega
  have d3 : ((y.num : Int) : Rat) ≠ 0 := by intro h3; exact num_ne h (Rat.intCast_eq_zero_iff.1 h3)
  unfold recp
  generalize ((y.num : Int) : Rat) = c at *; generalize (((y.den : Nat) : Int) : Rat) = d at *
  rw [← h2]; grind
theorem neg_frac (y : Rat) : ((-y.num : Int) : Rat) / ((y.den : Int) : Rat) = -y := by
  have h2 := self_frac y
  rw [Rat.intCast_neg]
  generalize ((y.num : Int) : Rat) = c at *; generalize (((y.den : Nat) : Int) : Rat) = d at *
  rw [← h2]; grind
theorem bn_of {b g : Nat} {w : World} {y1 y2 y3 : Value} (rv : Rv b x (.agg #[y1, y2, y3]) w) (hT : TB w g 29 y1 y2 y3) : Bn b x g w := by
  obtain ⟨s, A, n, c, B, m, d, he, h⟩ := rv
  simp only [Value.agg.injEq, Array.mk.injEq, List.cons.injEq, and_true] at he
  obtain ⟨rfl, rfl, rfl⟩ := he
  exact ⟨s, A, n, c, B, m, d, hT, h⟩
def negq (y : Rat) : Rat := ((-y.num : Int) : Rat) / ((y.den : Int) : Rat)
theorem negq_eq (y : Rat) : negq y = -y := neg_frac y
def zeroq : Rat := ((0 : Int) : Rat) / ((1 : Int) : Rat)
theorem zeroq_eq : zeroq = 0 := one_div 0
theorem sm_zeroq : Sm zeroq := by rw [zeroq_eq]; exact ⟨by decide, by decide⟩
theorem rcq_zero (x : Rat) : rcq x 0 = x.num.sign := by
  rw [rcq_num]
  have e1 : (0 : Rat).num = 0 := rfl
  have e2 : (0 : Rat).den = 1 := rfl
  rw [e1, e2]
  simp only [Int.natCast_one, Int.mul_one, Int.zero_mul]
  rcases Int.lt_trichotomy x.num 0 with h1 | h1 | h1
  · rw [if_pos h1, Int.sign_eq_neg_one_of_neg h1]
  · rw [h1]; simp
  · rw [if_neg (by omega), if_pos h1, Int.sign_eq_one_of_pos h1]
end
end Go.Proofs.Ytifnbpkcnkfanaa
