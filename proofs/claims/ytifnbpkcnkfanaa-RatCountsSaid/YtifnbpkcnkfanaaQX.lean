/-
  Rats and the reference's fractions as values; the numbers of a law's array.
-/
import Derived.Test.YtifnbpkcnkfanaaQW
import Derived.Test.YtifnbpkcnkfanaaQMk
namespace Go.Proofs.Ytifnbpkcnkfanaa
open Go.RowKit

theorem one_div (z : Int) : (z : Rat) / ((1 : Int) : Rat) = (z : Rat) := by rw [Rat.intCast_one]; grind
theorem frac_le (n d : Int) (hd : d ≠ 0) : ((n : Rat) / (d : Rat)).num.natAbs ≤ n.natAbs ∧ ((n : Rat) / (d : Rat)).den ≤ d.natAbs := by
  have h0 : d.natAbs ≠ 0 := by omega
  rw [← qv_frac n d hd, qv_abs h0, qv_den h0]
  exact ⟨Nat.div_le_self _ _, Nat.div_le_self _ _⟩
/-- A fraction of the reference. -/
def QL (x : Rat) : Value := .agg #[.int .i64 x.num, .int .i64 (x.den : Int)]
/-- A number. -/
def Nv (b N : Nat) (v : Value) (w : World) : Prop := ∃ A k c, v = .slice A k c ∧ Num w A k c b N
theorem Nv.new {b N : Nat} {v : Value} {w w' : World} (h : Nv b N v w) (hb : Below w.heap.size w w') : Nv b N v w' := by
  obtain ⟨A, k, c, h1, h2⟩ := h
  exact ⟨A, k, c, h1, h2.new hb⟩
theorem low_v (n d : Int) (h1 : -9223372036854775807 ≤ n) (h2 : n ≤ 9223372036854775807) (h3 : -9223372036854775807 ≤ d) (h4 : d ≤ 9223372036854775807) (hd : d ≠ 0) (v v' : Value) (hv : v = .int .i64 n) (hv' : v' = .int .i64 d) (w : World) :
    Calls Try.prog 14 #[v, v'] w (RV w (fun u _ => u = QL ((n : Rat) / (d : Rat)))) := by
  subst hv; subst hv'
  exact rv_one (rlow_any n d h1 h2 h3 h4 hd)
theorem is_v {w : World} {b : Nat} {x y : Rat} {v v' : Value} (h : Rv b x v w) (hv : v' = QL y) (hxy : x = y) (hz : y.num.natAbs ≤ 9223372036854775807 ∧ y.den ≤ 9223372036854775807) : Calls Try.prog 13 #[v, v'] w (RV w (fun u _ => u = .bool true)) := by
  subst hv; subst hxy
  obtain ⟨s, A, n, c, B, m, d, rfl, h⟩ := h
  exact rv_one (lis_any h hz.1 hz.2)
theorem nof_v (k : Nat) (hk : k < 18446744073709551616) (v : Value) (hv : v = .int .u64 k) (w : World) : Calls Try.prog 17 #[v] w (RV w (Nv 2 k)) := by
  subst hv
  refine (of_n k hk w).mono ?_
  rintro e w1 ⟨A, n, c, rfl, h, -, hb⟩
  exact ⟨_, rfl, ⟨A, n, c, rfl, h⟩, hb⟩
theorem fromnat_v {w : World} {b N : Nat} {v : Value} (h : Nv b N v w) (hb : b ≤ 4900) : Calls Try.prog 16 #[v] w (RV w (Rv b (N : Rat))) := by
  obtain ⟨A, n, c, rfl, h⟩ := h
  refine (qnat_any h (by omega)).mono ?_
  rintro e w1 ⟨s1, A1, n1, c1, B1, m1, d1, rfl, h1, hb1⟩
  exact ⟨_, rfl, ⟨s1, A1, n1, c1, B1, m1, d1, rfl, h1⟩, hb1⟩
theorem call_low : callsB Try.prog 14 = true := by kernel_rfl
theorem call_is : callsB Try.prog 13 = true := by kernel_rfl
theorem call_nof : callsB Try.prog 17 = true := by kernel_rfl
theorem call_fromnat : callsB Try.prog 16 = true := by kernel_rfl
section
variable {o : Oper} {a : Act} {w : World} {t : Tmp} {g : Nat}
theorem idx_0 (ho : o.op = .indexAddr 22 (.tmp t) (.const (.int .i64 0))) (hx : tv a t = .pointer (some ⟨g, 0, none⟩)) : gives Try.prog o a.eval w (fun v w' => v = .pointer (some ⟨g, 0, none⟩) ∧ Below w.heap.size w w') := by
  refine gives_val (.pointer (some ⟨g, 0, none⟩)) ?_ ⟨rfl, Below.refl _ _⟩
  unfold execOp; rw [ho]; simp only [eval_tmp, eval_const, hx]; go_simp
theorem idx_1 (ho : o.op = .indexAddr 22 (.tmp t) (.const (.int .i64 1))) (hx : tv a t = .pointer (some ⟨g, 0, none⟩)) : gives Try.prog o a.eval w (fun v w' => v = .pointer (some ⟨g, 1, none⟩) ∧ Below w.heap.size w w') := by
  refine gives_val (.pointer (some ⟨g, 1, none⟩)) ?_ ⟨rfl, Below.refl _ _⟩
  unfold execOp; rw [ho]; simp only [eval_tmp, eval_const, hx]; go_simp
theorem idx_2 (ho : o.op = .indexAddr 22 (.tmp t) (.const (.int .i64 2))) (hx : tv a t = .pointer (some ⟨g, 0, none⟩)) : gives Try.prog o a.eval w (fun v w' => v = .pointer (some ⟨g, 2, none⟩) ∧ Below w.heap.size w w') := by
  refine gives_val (.pointer (some ⟨g, 2, none⟩)) ?_ ⟨rfl, Below.refl _ _⟩
  unfold execOp; rw [ho]; simp only [eval_tmp, eval_const, hx]; go_simp
theorem idx_3 (ho : o.op = .indexAddr 22 (.tmp t) (.const (.int .i64 3))) (hx : tv a t = .pointer (some ⟨g, 0, none⟩)) : gives Try.prog o a.eval w (fun v w' => v = .pointer (some ⟨g, 3, none⟩) ∧ Below w.heap.size w w') := by
  refine gives_val (.pointer (some ⟨g, 3, none⟩)) ?_ ⟨rfl, Below.refl _ _⟩
  unfold execOp; rw [ho]; simp only [eval_tmp, eval_const, hx]; go_simp
theorem load_i64 {p : Addr} {z : Int} (ho : o.op = .load 2 (.tmp t)) (hx : tv a t = .pointer (some p)) (hc : w.cell? p = some (.int .i64 z)) : gives Try.prog o a.eval w (fun u w' => u = .int .i64 z ∧ Below w.heap.size w w') := by
  refine gives_val (.int .i64 z) ?_ ⟨rfl, Below.refl _ _⟩
  unfold execOp; rw [ho]; simp only [eval_tmp, hx]; go_simp
theorem conv_u64 {k : Nat} (hk : k < 9223372036854775808) (ho : o.op = .convert 2 40 (.tmp t)) (hx : tv a t = .int .i64 (k : Int)) : gives Try.prog o a.eval w (fun u w' => u = .int .u64 (k : Int) ∧ Below w.heap.size w w') := by
  refine gives_val (.int .u64 (k : Int)) ?_ ⟨rfl, Below.refl _ _⟩
  have e : IntKind.u64.wrap (k : Int) = (k : Int) := IntWalk.u64_in _ (by omega)
  unfold execOp; rw [ho]; simp only [eval_tmp, hx]; go_simp
theorem build_zero (ho : o.op = .build 29 #[]) : gives Try.prog o a.eval w (fun v w' => Rw 1 0 v w' ∧ Below w.heap.size w w') := by
  refine gives_val (.agg #[.bool false, .slice none 0 0, .slice none 0 0]) ?_ ⟨rw_zero _, Below.refl _ _⟩
  unfold execOp; rw [ho]; go_simp
end
/-- The Rat that RatMakes lays by hand. -/
theorem raw_world (W : World) (s : Bool) (k y : Nat) (hk : k < 4294967296) (hy : y < 4294967296) :
    (fun W3 => Bx 3 (qv s k y) (W.heap.size + 2) W3 ∧ Below W.heap.size W W3)
      (((W.alloc (.cells #[.int .u32 (k : Int), .int .u32 0, .int .u32 0] 23)).alloc (.cells #[.int .u32 (y : Int), .int .u32 0] 23)).alloc (.cells #[.bool s, .slice (some ⟨W.heap.size, 0, none⟩) 3 3, .slice (some ⟨W.heap.size + 1, 0, none⟩) 2 2] 29)) := by
  have b1 : Blk (W.alloc (.cells #[.int .u32 (k : Int), .int .u32 0, .int .u32 0] 23)) W.heap.size 23 (urow [k, 0, 0]) := by
    have := Blk.new W 23 (urow [k, 0, 0])
    simpa [urow, U32] using this
  have z1 : (W.alloc (.cells #[.int .u32 (k : Int), .int .u32 0, .int .u32 0] 23)).heap.size = W.heap.size + 1 := by simp
  have l1 := al W (.cells #[.int .u32 (k : Int), .int .u32 0, .int .u32 0] 23)
  generalize W.alloc (.cells #[.int .u32 (k : Int), .int .u32 0, .int .u32 0] 23) = W1 at *
  have b2 : Blk (W1.alloc (.cells #[.int .u32 (y : Int), .int .u32 0] 23)) (W.heap.size + 1) 23 (urow [y, 0]) := by
    have := Blk.new W1 23 (urow [y, 0])
    rw [z1] at this
    simpa [urow, U32] using this
  have z2 : (W1.alloc (.cells #[.int .u32 (y : Int), .int .u32 0] 23)).heap.size = W.heap.size + 2 := by simp [z1]
  have l2 := al W1 (.cells #[.int .u32 (y : Int), .int .u32 0] 23)
  replace b1 := b1.below l2 b1.lt
  replace l1 := bthen l1 l2 l1.size
  generalize W1.alloc (.cells #[.int .u32 (y : Int), .int .u32 0] 23) = W2 at *
  have b3 := TB.made W2 29 (.bool s) (.slice (some ⟨W.heap.size, 0, none⟩) 3 3) (.slice (some ⟨W.heap.size + 1, 0, none⟩) 2 2)
  have l3 := al W2 (.cells #[.bool s, .slice (some ⟨W.heap.size, 0, none⟩) 3 3, .slice (some ⟨W.heap.size + 1, 0, none⟩) 2 2] 29)
  rw [z2] at b3
  replace b1 := b1.below l3 b1.lt
  replace b2 := b2.below l3 b2.lt
  replace l1 := bthen l1 l3 l1.size
  generalize W2.alloc (.cells #[.bool s, .slice (some ⟨W.heap.size, 0, none⟩) 3 3, .slice (some ⟨W.heap.size + 1, 0, none⟩) 2 2] 29) = W3 at *
  have hp : k < PB 3 ∧ y < PB 3 := by
    have : PB 1 ≤ PB 3 := PB_mono (by omega)
    have h1 : PB 1 = 4294967296 * 4294967296 ∨ 4294967296 ≤ PB 1 := .inr (by rw [PB]; omega)
    rcases h1 with h | h <;> omega
  have e1 := Es.of_blk b1 (by simp) (by simp; omega)
  have e2 := Es.of_blk b2 (by simp) (by simp; omega)
  refine ⟨⟨s, _, 3, 3, _, 2, 2, b3, k, y, ⟨Nat.le_refl _, by omega, by omega, hp.1, [k, 0, 0], e1, by simp [valB]⟩, ⟨Nat.le_refl _, by omega, by omega, hp.2, [y, 0], e2, by simp [valB]⟩, rfl⟩, l1⟩
end Go.Proofs.Ytifnbpkcnkfanaa
