/-
  The reference of layer 5: Cmp; the law's own of.
-/
import Derived.Test.YtifnbpkcnkfanaaQX
namespace Go.Proofs.Ytifnbpkcnkfanaa
open Go.RowKit
set_option linter.unusedSimpArgs false

/-- A fraction of small numbers. -/
def Sm (x : Rat) : Prop := x.num.natAbs ≤ 1048576 ∧ x.den ≤ 1048576
theorem mul_small {a b : Int} (ha : -1048576 ≤ a ∧ a ≤ 1048576) (hb : -1048576 ≤ b ∧ b ≤ 1048576) : -1099511627776 ≤ a * b ∧ a * b ≤ 1099511627776 := by
  have h : (a * b).natAbs ≤ 1048576 * 1048576 := by rw [Int.natAbs_mul]; exact Nat.mul_le_mul (by omega) (by omega)
  omega
theorem Sm.rng {x : Rat} (h : Sm x) : (-1048576 ≤ x.num ∧ x.num ≤ 1048576) ∧ (-1048576 ≤ (x.den : Int) ∧ (x.den : Int) ≤ 1048576) ∧ (x.den : Int) ≠ 0 := by
  have := x.den_nz; obtain ⟨h1, h2⟩ := h; omega
theorem self_frac (x : Rat) : ((x.num : Int) : Rat) / (((x.den : Nat) : Int) : Rat) = x := by
  have h := qv_frac x.num (x.den : Int) (by have := x.den_nz; omega)
  rw [show decide ((x.den : Int) < 0) = false by simp, show (decide (x.num < 0) != false) = decide (x.num < 0) by simp, Int.natAbs_natCast, qv_self] at h
  exact h.symm
theorem mul_frac (x y : Rat) : ((x.num * y.num : Int) : Rat) / (((x.den : Int) * (y.den : Int) : Int) : Rat) = x * y := by
  have h1 := self_frac x; have h2 := self_frac y
  have d1 : (((x.den : Nat) : Int) : Rat) ≠ 0 := by intro h; have := Rat.intCast_eq_zero_iff.1 h; have := x.den_nz; omega
  have d2 : (((y.den : Nat) : Int) : Rat) ≠ 0 := by intro h; have := Rat.intCast_eq_zero_iff.1 h; have := y.den_nz; omega
  rw [Rat.intCast_mul, Rat.intCast_mul]
  generalize ((x.num : Int) : Rat) = a at *; generalize ((y.num : Int) : Rat) = b at *
  generalize (((x.den : Nat) : Int) : Rat) = c at *; generalize (((y.den : Nat) : Int) : Rat) = d at *
  rw [← h1, ← h2]; grind
theorem add_frac (x y : Rat) : ((x.num * (y.den : Int) + y.num * (x.den : Int) : Int) : Rat) / (((x.den : Int) * (y.den : Int) : Int) : Rat) = x + y := by
  have h1 := self_frac x; have h2 := self_frac y
  have d1 : (((x.den : Nat) : Int) : Rat) ≠ 0 := by intro h; have := Rat.intCast_eq_zero_iff.1 h; have := x.den_nz; omega
  have d2 : (((y.den : Nat) : Int) : Rat) ≠ 0 := by intro h; have := Rat.intCast_eq_zero_iff.1 h; have := y.den_nz; omega
  rw [Rat.intCast_add, Rat.intCast_mul, Rat.intCast_mul, Rat.intCast_mul]
  generalize ((x.num : Int) : Rat) = a at *; generalize ((y.num : Int) : Rat) = b at *
  generalize (((x.den : Nat) : Int) : Rat) = c at *; generalize (((y.den : Nat) : Int) : Rat) = d at *
  rw [← h1, ← h2]; grind

set_option maxRecDepth 100000 in
set_option maxHeartbeats 2000000 in
theorem rmul_any {x y : Rat} (hx : Sm x) (hy : Sm y) (w : World) : Calls Try.prog 30 #[QL x, QL y] w fun e w' => e = .returned (QL (x * y)) ∧ Below w.heap.size w w' := by
  obtain ⟨a1, a2, a3⟩ := hx.rng; obtain ⟨b1, b2, b3⟩ := hy.rng
  have HL := Lib.hid (show ∀ W, Calls Try.prog 14 #[.int .i64 (x.num * y.num), .int .i64 ((x.den : Int) * (y.den : Int))] W fun e w' => e = .returned (.agg #[.int .i64 (x * y).num, .int .i64 ((x * y).den : Int)]) ∧ Below W.heap.size W w' from fun W => by
    have m1 := mul_small a1 b1; have m2 := mul_small a2 b2
    have := rlow_any (w := W) (x.num * y.num) ((x.den : Int) * (y.den : Int)) (by omega) (by omega) (by omega) (by omega) (Int.mul_ne_zero a3 b3)
    rw [mul_frac] at this
    exact this)
  have i1 : IntKind.i64.wrap (x.num * y.num) = x.num * y.num := IntWalk.i64_in _ (by have := mul_small a1 b1; omega)
  have i2 : IntKind.i64.wrap ((x.den : Int) * (y.den : Int)) = (x.den : Int) * (y.den : Int) := IntWalk.i64_in _ (by have := mul_small a2 b2; omega)
  unfold QL
  clear a1 a2 a3 b1 b2 b3 hx hy
  generalize (x * y).num = p1 at *; generalize ((x * y).den : Int) = p2 at *
  generalize x.num = xa at *; generalize (x.den : Int) = xb at *; generalize y.num = ya at *; generalize (y.den : Int) = yb at *
  go_enter Try.func30, Try.ntmps30
  go_wp2_with fail
  have hT : GB ((((w.alloc (.cells #[.int .i64 xa, .int .i64 xb] 35)).alloc (.cells #[.int .i64 ya, .int .i64 yb] 35)).alloc (.cells #[.int .i64 0, .int .i64 0] 35))) (w.heap.size + 2) 35 (.int .i64 0) (.int .i64 0) := by
    have := GB.made ((w.alloc (.cells #[.int .i64 xa, .int .i64 xb] 35)).alloc (.cells #[.int .i64 ya, .int .i64 yb] 35)) 35 (.int .i64 0) (.int .i64 0)
    simpa using this
  have hW : Below w.heap.size w (((w.alloc (.cells #[.int .i64 xa, .int .i64 xb] 35)).alloc (.cells #[.int .i64 ya, .int .i64 yb] 35)).alloc (.cells #[.int .i64 0, .int .i64 0] 35)) := ((al w _).alloc (by simp) _).alloc (by simp; omega) _
  generalize ((w.alloc (.cells #[.int .i64 xa, .int .i64 xb] 35)).alloc (.cells #[.int .i64 ya, .int .i64 yb] 35)).alloc (.cells #[.int .i64 0, .int .i64 0] 35) = w0 at hT hW ⊢
  refine (HL.out _).mono ?_
  rintro e w1 ⟨rfl, hb⟩
  have T := Lib.hid (hT.new hb); have HW := Lib.hid (bthen hW hb hW.size)
  clear hT hW hb
  have r0 := T.out.c0; have r1 := T.out.c1; have f0 := T.out.f0; have f1 := T.out.f1
  go_wp2_with fail
  refine bodyPost_ret (v := .agg #[.int .i64 p1, .int .i64 p2]) ?_ rfl ⟨rfl, (HW.out.setCell (p := ⟨w.heap.size + 2, 0, none⟩) (Nat.le_add_right _ _) _).setCell (p := ⟨w.heap.size + 2, 1, none⟩) (Nat.le_add_right _ _) _⟩
  exact results_cell_row Try.results30 _ _ _ _ _ (0, 0) _ rfl ((T.out.blk.set_ 0 _).set_ 1 _) Try.underlying35 rfl rfl
set_option maxRecDepth 100000 in
set_option maxHeartbeats 2000000 in
theorem radd_any {x y : Rat} (hx : Sm x) (hy : Sm y) (w : World) : Calls Try.prog 31 #[QL x, QL y] w fun e w' => e = .returned (QL (x + y)) ∧ Below w.heap.size w w' := by
  obtain ⟨a1, a2, a3⟩ := hx.rng; obtain ⟨b1, b2, b3⟩ := hy.rng
  have HL := Lib.hid (show ∀ W, Calls Try.prog 14 #[.int .i64 (x.num * (y.den : Int) + y.num * (x.den : Int)), .int .i64 ((x.den : Int) * (y.den : Int))] W fun e w' => e = .returned (.agg #[.int .i64 (x + y).num, .int .i64 ((x + y).den : Int)]) ∧ Below W.heap.size W w' from fun W => by
    have m1 := mul_small a1 b2; have m2 := mul_small a2 b2; have m3 := mul_small b1 a2
    have := rlow_any (w := W) (x.num * (y.den : Int) + y.num * (x.den : Int)) ((x.den : Int) * (y.den : Int)) (by omega) (by omega) (by omega) (by omega) (Int.mul_ne_zero a3 b3)
    rw [add_frac] at this
    exact this)
  have i1 : IntKind.i64.wrap (x.num * (y.den : Int)) = x.num * (y.den : Int) := IntWalk.i64_in _ (by have := mul_small a1 b2; omega)
  have i3 : IntKind.i64.wrap (y.num * (x.den : Int)) = y.num * (x.den : Int) := IntWalk.i64_in _ (by have := mul_small b1 a2; omega)
  have i2 : IntKind.i64.wrap ((x.den : Int) * (y.den : Int)) = (x.den : Int) * (y.den : Int) := IntWalk.i64_in _ (by have := mul_small a2 b2; omega)
  have i4 : IntKind.i64.wrap (x.num * (y.den : Int) + y.num * (x.den : Int)) = x.num * (y.den : Int) + y.num * (x.den : Int) := IntWalk.i64_in _ (by have := mul_small a1 b2; have := mul_small b1 a2; omega)
  unfold QL
  clear a1 a2 a3 b1 b2 b3 hx hy
  generalize (x + y).num = p1 at *; generalize ((x + y).den : Int) = p2 at *
  generalize x.num = xa at *; generalize (x.den : Int) = xb at *; generalize y.num = ya at *; generalize (y.den : Int) = yb at *
  go_enter Try.func31, Try.ntmps31
  go_wp2_with fail
  have hT : GB ((((w.alloc (.cells #[.int .i64 xa, .int .i64 xb] 35)).alloc (.cells #[.int .i64 ya, .int .i64 yb] 35)).alloc (.cells #[.int .i64 0, .int .i64 0] 35))) (w.heap.size + 2) 35 (.int .i64 0) (.int .i64 0) := by
    have := GB.made ((w.alloc (.cells #[.int .i64 xa, .int .i64 xb] 35)).alloc (.cells #[.int .i64 ya, .int .i64 yb] 35)) 35 (.int .i64 0) (.int .i64 0)
    simpa using this
  have hW : Below w.heap.size w (((w.alloc (.cells #[.int .i64 xa, .int .i64 xb] 35)).alloc (.cells #[.int .i64 ya, .int .i64 yb] 35)).alloc (.cells #[.int .i64 0, .int .i64 0] 35)) := ((al w _).alloc (by simp) _).alloc (by simp; omega) _
  generalize ((w.alloc (.cells #[.int .i64 xa, .int .i64 xb] 35)).alloc (.cells #[.int .i64 ya, .int .i64 yb] 35)).alloc (.cells #[.int .i64 0, .int .i64 0] 35) = w0 at hT hW ⊢
  refine (HL.out _).mono ?_
  rintro e w1 ⟨rfl, hb⟩
  have T := Lib.hid (hT.new hb); have HW := Lib.hid (bthen hW hb hW.size)
  clear hT hW hb
  have r0 := T.out.c0; have r1 := T.out.c1; have f0 := T.out.f0; have f1 := T.out.f1
  go_wp2_with fail
  refine bodyPost_ret (v := .agg #[.int .i64 p1, .int .i64 p2]) ?_ rfl ⟨rfl, (HW.out.setCell (p := ⟨w.heap.size + 2, 0, none⟩) (Nat.le_add_right _ _) _).setCell (p := ⟨w.heap.size + 2, 1, none⟩) (Nat.le_add_right _ _) _⟩
  exact results_cell_row Try.results31 _ _ _ _ _ (0, 0) _ rfl ((T.out.blk.set_ 0 _).set_ 1 _) Try.underlying35 rfl rfl
end Go.Proofs.Ytifnbpkcnkfanaa
namespace Go.Proofs.Ytifnbpkcnkfanaa
open Go.RowKit
set_option linter.unusedSimpArgs false

theorem rcq_num (x y : Rat) : rcq x y = if x.num * (y.den : Int) < y.num * (x.den : Int) then -1 else if y.num * (x.den : Int) < x.num * (y.den : Int) then 1 else 0 := by
  unfold rcq
  simp only [Rat.lt_iff]
set_option maxRecDepth 100000 in
set_option maxHeartbeats 2000000 in
theorem rcmp_any {x y : Rat} (hx : Sm x) (hy : Sm y) (w : World) : Calls Try.prog 32 #[QL x, QL y] w fun e w' => e = .returned (.int .i64 (rcq x y)) ∧ Below w.heap.size w w' := by
  obtain ⟨a1, a2, a3⟩ := hx.rng; obtain ⟨b1, b2, b3⟩ := hy.rng
  have HQ := Lib.hid (rcq_num x y)
  have k1 := mul_small a1 b2
  have k3 := mul_small b1 a2
  unfold QL
  clear a1 a2 a3 b1 b2 b3 hx hy
  generalize x.num = xa at *; generalize (x.den : Int) = xb at *; generalize y.num = ya at *; generalize (y.den : Int) = yb at *
  generalize rcq x y = r at *
  obtain ⟨P1, e1⟩ : ∃ p, p = xa * yb := ⟨_, rfl⟩
  obtain ⟨P2, e2⟩ : ∃ p, p = ya * xb := ⟨_, rfl⟩
  rw [← e1, ← e2] at HQ
  rw [← e1] at k1; rw [← e2] at k3
  replace k1 : -9223372036854775808 ≤ P1 ∧ P1 ≤ 9223372036854775807 := by omega
  replace k3 : -9223372036854775808 ≤ P2 ∧ P2 ≤ 9223372036854775807 := by omega
  have HK1 := Lib.hid k1; have HK3 := Lib.hid k3; have E1 := Lib.hid e1; have E2 := Lib.hid e2; clear k1 k3 e1 e2
  go_enter Try.func32, Try.ntmps32
  go_wp2_with fail
  have hT2 : GB ((w.alloc (.cells #[.int .i64 xa, .int .i64 xb] 35)).alloc (.cells #[.int .i64 ya, .int .i64 yb] 35)) w.heap.size 35 (.int .i64 xa) (.int .i64 xb) := (GB.made w _ _ _).alloc _
  have hT3 : GB ((w.alloc (.cells #[.int .i64 xa, .int .i64 xb] 35)).alloc (.cells #[.int .i64 ya, .int .i64 yb] 35)) (w.heap.size + 1) 35 (.int .i64 ya) (.int .i64 yb) := by
    have := GB.made (w.alloc (.cells #[.int .i64 xa, .int .i64 xb] 35)) 35 (.int .i64 ya) (.int .i64 yb)
    simpa using this
  have hW : Below w.heap.size w ((w.alloc (.cells #[.int .i64 xa, .int .i64 xb] 35)).alloc (.cells #[.int .i64 ya, .int .i64 yb] 35)) := (al w _).alloc (by simp) _
  generalize (w.alloc (.cells #[.int .i64 xa, .int .i64 xb] 35)).alloc (.cells #[.int .i64 ya, .int .i64 yb] 35) = w0 at hT2 hT3 hW ⊢
  have c0 := hT2.c0; have c1 := hT2.c1; have d0 := hT3.c0; have d1 := hT3.c1
  have HW := Lib.hid hW; clear hT2 hT3 hW
  go_quiet (fail)
  have k1 := HK1.out; have k3 := HK3.out; have e1 := E1.out; have e2 := E2.out; clear HK1 HK3 E1 E2
  rw [show wrap64 (xa * yb) = P1 from by rw [← e1]; exact IntWalk.wrap64_in P1 k1, show wrap64 (ya * xb) = P2 from by rw [← e2]; exact IntWalk.wrap64_in P2 k3]
  clear k1 k3 e1 e2
  by_cases h1 : P1 < P2
  · have HR := Lib.hid (show r = -1 by rw [HQ.out, if_pos h1])
    have t1 := decide_eq_true h1
    clear HQ h1
    go_wp2_with fail
    go_ret
    exact ⟨by rw [HR.out]; rfl, below_drewN HW.out _⟩
  · by_cases h2 : P2 < P1
    · have HR := Lib.hid (show r = 1 by rw [HQ.out, if_neg h1, if_pos h2])
      have t1 := decide_eq_false h1
      have t2 := decide_eq_true h2
      clear HQ h1 h2
      go_wp2_with fail
      go_ret
      exact ⟨by rw [HR.out]; rfl, below_drewN HW.out _⟩
    · have HR := Lib.hid (show r = 0 by rw [HQ.out, if_neg h1, if_neg h2])
      have t1 := decide_eq_false h1
      have t2 := decide_eq_false h2
      clear HQ h1 h2
      go_wp2_with fail
      go_ret
      exact ⟨by rw [HR.out]; rfl, below_drewN HW.out _⟩

/-- A block that holds a fraction of the reference. -/
def Qb (x : Rat) (g : Nat) (w : World) : Prop := GB w g 35 (.int .i64 x.num) (.int .i64 (x.den : Int))
theorem Qb.new {x : Rat} {g : Nat} {w w' : World} (h : Qb x g w) (hb : Below w.heap.size w w') : Qb x g w' := GB.new h hb
theorem Qb.lt {x : Rat} {g : Nat} {w : World} (h : Qb x g w) : g < w.heap.size := GB.lt h
theorem load_qb {o : Oper} {a : Act} {w : World} {t : Tmp} {g : Nat} {x : Rat} (ho : o.op = .load 35 (.tmp t)) (ht : tv a t = .pointer (some ⟨g, 0, none⟩)) (h : Qb x g w) :
    gives Try.prog o a.eval w (fun v w' => v = QL x ∧ Below w.heap.size w w') :=
  gives_load_blk 35 (.tmp t) ho g 35 _ _ ht (GB.blk h) Try.underlying35 rfl (by kernel_rfl) ⟨rfl, Below.refl _ _⟩
theorem radd_v {x y : Rat} (hx : Sm x) (hy : Sm y) (v v' : Value) (hv : v = QL x) (hv' : v' = QL y) (w : World) : Calls Try.prog 31 #[v, v'] w (RV w (fun u _ => u = QL (x + y))) := by subst hv; subst hv'; exact rv_one (radd_any hx hy w)
theorem rmul_v {x y : Rat} (hx : Sm x) (hy : Sm y) (v v' : Value) (hv : v = QL x) (hv' : v' = QL y) (w : World) : Calls Try.prog 30 #[v, v'] w (RV w (fun u _ => u = QL (x * y))) := by subst hv; subst hv'; exact rv_one (rmul_any hx hy w)
theorem rcmp_v {x y : Rat} (hx : Sm x) (hy : Sm y) (v v' : Value) (hv : v = QL x) (hv' : v' = QL y) (w : World) : Calls Try.prog 32 #[v, v'] w (RV w (fun u _ => u = .int .i64 (rcq x y))) := by subst hv; subst hv'; exact rv_one (rcmp_any hx hy w)
theorem call_radd : callsB Try.prog 31 = true := by kernel_rfl
theorem call_rmul : callsB Try.prog 30 = true := by kernel_rfl
theorem call_rcmp : callsB Try.prog 32 = true := by kernel_rfl
theorem call_lof : callsB Try.prog 29 = true := by kernel_rfl
end Go.Proofs.Ytifnbpkcnkfanaa
