/-
  The reference of layer 5: Cmp; the law's own of.
-/
import Derived.Test.YtifnbpkcnkfanaaQRef2
namespace Go.Proofs.Ytifnbpkcnkfanaa
open Go.RowKit
set_option linter.unusedSimpArgs false

theorem rcq_num (x y : Rat) : rcq x y = if x.num * (y.den : Int) < y.num * (x.den : Int) then -1 else if y.num * (x.den : Int) < x.num * (y.den : Int) then 1 else 0 := by
  unfold rcq
  simp only [Rat.lt_iff]
set_option maxRecDepth 100000 in
set_option maxHeartbeats 2000000 in
theorem rcmp_any {x y : Rat} (hx : Sm x) (hy : Sm y) (w : World) : Calls Try.prog 32 #[QL x, QL y] w fun e w' => e = .returned (.int .i64 (rcq x y)) ∧ Below w.heap.size w w' := by
  obtain ⟨a1, a2, a3⟩ := hx.rng; obtain ⟨b1, b2, b3⟩ := hy.rng
  have HQ := Lib.hid (rcq_num x y)
  have k1 := mul_small a1 b2
  have k3 := mul_small b1 a2
  unfold QL
  clear a1 a2 a3 b1 b2 b3 hx hy
  generalize x.num = xa at *; generalize (x.den : Int) = xb at *; generalize y.num = ya at *; generalize (y.den : Int) = yb at *
  generalize rcq x y = r at *
  obtain ⟨P1, e1⟩ : ∃ p, p = xa * yb := ⟨_, rfl⟩
  obtain ⟨P2, e2⟩ : ∃ p, p = ya * xb := ⟨_, rfl⟩
  rw [← e1, ← e2] at HQ
  rw [← e1] at k1; rw [← e2] at k3
  replace k1 : -9223372036854775808 ≤ P1 ∧ P1 ≤ 9223372036854775807 := by omega
  replace k3 : -9223372036854775808 ≤ P2 ∧ P2 ≤ 9223372036854775807 := by omega
  have HK1 := Lib.hid k1; have HK3 := Lib.hid k3; have E1 := Lib.hid e1; have E2 := Lib.hid e2; clear k1 k3 e1 e2
  go_enter Try.func32, Try.ntmps32
  go_wp2_with fail
  have hT2 : GB ((w.alloc (.cells #[.int .i64 xa, .int .i64 xb] 35)).alloc (.cells #[.int .i64 ya, .int .i64 yb] 35)) w.heap.size 35 (.int .i64 xa) (.int .i64 xb) := (GB.made w _ _ _).alloc _
  have hT3 : GB ((w.alloc (.cells #[.int .i64 xa, .int .i64 xb] 35)).alloc (.cells #[.int .i64 ya, .int .i64 yb] 35)) (w.heap.size + 1) 35 (.int .i64 ya) (.int .i64 yb) := by
    have := GB.made (w.alloc (.cells #[.int .i64 xa, .int .i64 xb] 35)) 35 (.int .i64 ya) (.int .i64 yb)
    simpa using this
  have hW : Below w.heap.size w ((w.alloc (.cells #[.int .i64 xa, .int .i64 xb] 35)).alloc (.cells #[.int .i64 ya, .int .i64 yb] 35)) := (al w _).alloc (by simp) _
  generalize (w.alloc (.cells #[.int .i64 xa, .int .i64 xb] 35)).alloc (.cells #[.int .i64 ya, .int .i64 yb] 35) = w0 at hT2 hT3 hW ⊢
  have c0 := hT2.c0; have c1 := hT2.c1; have d0 := hT3.c0; have d1 := hT3.c1
  have HW := Lib.hid hW; clear hT2 hT3 hW
  go_quiet (fail)
  have k1 := HK1.out; have k3 := HK3.out; have e1 := E1.out; have e2 := E2.out; clear HK1 HK3 E1 E2
  rw [show wrap64 (xa * yb) = P1 from by rw [← e1]; exact IntWalk.wrap64_in P1 k1, show wrap64 (ya * xb) = P2 from by rw [← e2]; exact IntWalk.wrap64_in P2 k3]
  clear k1 k3 e1 e2
  by_cases h1 : P1 < P2
  · have HR := Lib.hid (show r = -1 by rw [HQ.out, if_pos h1])
    have t1 := decide_eq_true h1
    clear HQ h1
    go_wp2_with fail
    go_ret
    exact ⟨by rw [HR.out]; rfl, below_drewN HW.out _⟩
  · by_cases h2 : P2 < P1
    · have HR := Lib.hid (show r = 1 by rw [HQ.out, if_neg h1, if_pos h2])
      have t1 := decide_eq_false h1
      have t2 := decide_eq_true h2
      clear HQ h1 h2
      go_wp2_with fail
      go_ret
      exact ⟨by rw [HR.out]; rfl, below_drewN HW.out _⟩
    · have HR := Lib.hid (show r = 0 by rw [HQ.out, if_neg h1, if_neg h2])
      have t1 := decide_eq_false h1
      have t2 := decide_eq_false h2
      clear HQ h1 h2
      go_wp2_with fail
      go_ret
      exact ⟨by rw [HR.out]; rfl, below_drewN HW.out _⟩

/-- A block that holds a fraction of the reference. -/
def Qb (x : Rat) (g : Nat) (w : World) : Prop := GB w g 35 (.int .i64 x.num) (.int .i64 (x.den : Int))
theorem Qb.new {x : Rat} {g : Nat} {w w' : World} (h : Qb x g w) (hb : Below w.heap.size w w') : Qb x g w' := GB.new h hb
theorem Qb.lt {x : Rat} {g : Nat} {w : World} (h : Qb x g w) : g < w.heap.size := GB.lt h
theorem load_qb {o : Oper} {a : Act} {w : World} {t : Tmp} {g : Nat} {x : Rat} (ho : o.op = .load 35 (.tmp t)) (ht : tv a t = .pointer (some ⟨g, 0, none⟩)) (h : Qb x g w) :
    gives Try.prog o a.eval w (fun v w' => v = QL x ∧ Below w.heap.size w w') :=
  gives_load_blk 35 (.tmp t) ho g 35 _ _ ht (GB.blk h) Try.underlying35 rfl (by kernel_rfl) ⟨rfl, Below.refl _ _⟩
theorem radd_v {x y : Rat} (hx : Sm x) (hy : Sm y) (v v' : Value) (hv : v = QL x) (hv' : v' = QL y) (w : World) : Calls Try.prog 31 #[v, v'] w (RV w (fun u _ => u = QL (x + y))) := by subst hv; subst hv'; exact rv_one (radd_any hx hy w)
theorem rmul_v {x y : Rat} (hx : Sm x) (hy : Sm y) (v v' : Value) (hv : v = QL x) (hv' : v' = QL y) (w : World) : Calls Try.prog 30 #[v, v'] w (RV w (fun u _ => u = QL (x * y))) := by subst hv; subst hv'; exact rv_one (rmul_any hx hy w)
theorem rcmp_v {x y : Rat} (hx : Sm x) (hy : Sm y) (v v' : Value) (hv : v = QL x) (hv' : v' = QL y) (w : World) : Calls Try.prog 32 #[v, v'] w (RV w (fun u _ => u = .int .i64 (rcq x y))) := by subst hv; subst hv'; exact rv_one (rcmp_any hx hy w)
theorem call_radd : callsB Try.prog 31 = true := by kernel_rfl
theorem call_rmul : callsB Try.prog 30 = true := by kernel_rfl
theorem call_rcmp : callsB Try.prog 32 = true := by kernel_rfl
theorem call_lof : callsB Try.prog 29 = true := by kernel_rfl
end Go.Proofs.Ytifnbpkcnkfanaa
