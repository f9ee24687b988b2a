/-
  Rats and the reference's fractions as values; the numbers of a law's array.
-/
import Derived.Test.YtifnbpkcnkfanaaQRef
import Derived.Test.YtifnbpkcnkfanaaQW
namespace Go.Proofs.Ytifnbpkcnkfanaa
open Go.RowKit

def Win (z : Int) : Prop := -1048576 ≤ z ∧ z ≤ 1048576
instance (z : Int) : Decidable (Win z) := inferInstanceAs (Decidable (_ ∧ _))
def winB (a b c d : Int) : Bool := decide (Win a ∧ Win b ∧ Win c ∧ Win d)
/-- The four numbers. -/
def four (a b c d : Int) (i : Nat) : Int := if i = 0 then a else if i = 1 then b else if i = 2 then c else d
def A4 (w : World) (g : Nat) (a b c d : Int) : Prop := Blk w g 22 #[.int .i64 a, .int .i64 b, .int .i64 c, .int .i64 d]
section
variable {w w' : World} {g : Nat} {a b c d : Int}
theorem A4.cell (h : A4 w g a b c d) {i : Nat} (hi : i < 4) : w.cell? ⟨g, i, none⟩ = some (.int .i64 (four a b c d i)) := by
  have : i = 0 ∨ i = 1 ∨ i = 2 ∨ i = 3 := by omega
  unfold A4 at h
  rcases this with rfl | rfl | rfl | rfl <;> (rw [Blk.cell h]; rfl)
theorem A4.c0 (h : A4 w g a b c d) : w.cell? ⟨g, 0, none⟩ = some (.int .i64 a) := h.cell (i := 0) (by omega)
theorem A4.c1 (h : A4 w g a b c d) : w.cell? ⟨g, 1, none⟩ = some (.int .i64 b) := h.cell (i := 1) (by omega)
theorem A4.c2 (h : A4 w g a b c d) : w.cell? ⟨g, 2, none⟩ = some (.int .i64 c) := h.cell (i := 2) (by omega)
theorem A4.c3 (h : A4 w g a b c d) : w.cell? ⟨g, 3, none⟩ = some (.int .i64 d) := h.cell (i := 3) (by omega)
theorem A4.new (h : A4 w g a b c d) (hb : Below w.heap.size w w') : A4 w' g a b c d := Blk.below h hb (Blk.lt h)
theorem A4.lt (h : A4 w g a b c d) : g < w.heap.size := Blk.lt h
theorem four_all (P : Int → Prop) : (∀ i, i < 4 → P (four a b c d i)) ↔ P a ∧ P b ∧ P c ∧ P d := by
  constructor
  · intro h; exact ⟨h 0 (by omega), h 1 (by omega), h 2 (by omega), h 3 (by omega)⟩
  · rintro ⟨h0, h1, h2, h3⟩ i hi
    have : i = 0 ∨ i = 1 ∨ i = 2 ∨ i = 3 := by omega
    rcases this with rfl | rfl | rfl | rfl
    · exact h0
    · exact h1
    · exact h2
    · exact h3

set_option maxHeartbeats 2000000 in
theorem within_any : Calls Try.prog 10 #[.agg #[.int .i64 a, .int .i64 b, .int .i64 c, .int .i64 d]] w fun e w' => e = .returned (.bool (winB a b c d)) ∧ Below w.heap.size w w' := by
  have HA : Hid (A4 (w.alloc (.cells #[.int .i64 a, .int .i64 b, .int .i64 c, .int .i64 d] 22)) w.heap.size a b c d) := Lib.hid (Blk.new w _ _)
  go_enter Try.func10, Try.ntmps10
  go_wp2_with fail
  go_loop [3] (fun iv => ∃ i : Nat, i ≤ 4 ∧ iv = .int .i64 i ∧ Hid (∀ j, j < i → Win (four a b c d j))) (fun iv => 4 - (intOf iv).toNat)
  case atStart => exact ⟨0, by omega, rfl, Lib.hid (fun j hj => by omega)⟩
  case round =>
    obtain ⟨i, hi, rfl, HJ⟩ := hrel
    by_cases hlt : i < 4
    · have hcell := HA.out.cell hlt
      obtain ⟨z, hz⟩ : ∃ z, z = four a b c d i := ⟨_, rfl⟩
      rw [← hz] at hcell
      have HZ := Lib.hid hz; clear hz
      have i1 : (0 : Int) ≤ (i : Int) := by omega
      have i2 : (i : Int) < 4 := by omega
      by_cases h1 : 1048576 < z
      · have t1 : decide ((1048576 : Int) < z) = true := by simp; omega
        go_wp2_with fail
        go_ret
        have hno : ¬ (Win a ∧ Win b ∧ Win c ∧ Win d) := fun h => by
          have := (four_all Win).2 h i hlt
          rw [← HZ.out] at this
          have := this.2; omega
        exact ⟨by rw [show winB a b c d = false from decide_eq_false hno]; rfl, al w _⟩
      · have t1 : decide ((1048576 : Int) < z) = false := by simp; omega
        by_cases h2 : z < -1048576
        · have t2 : decide (z < -1048576) = true := by simp; omega
          go_wp2_with fail
          go_ret
          have hno : ¬ (Win a ∧ Win b ∧ Win c ∧ Win d) := fun h => by
            have := (four_all Win).2 h i hlt
            rw [← HZ.out] at this
            have := this.1; omega
          exact ⟨by rw [show winB a b c d = false from decide_eq_false hno]; rfl, al w _⟩
        · have t2 : decide (z < -1048576) = false := by simp; omega
          go_wp2_with fail
          refine ⟨⟨i + 1, by omega, by go_num, Lib.hid (fun j hj => ?_)⟩, by simp [intOf]; omega⟩
          by_cases hji : j = i
          · subst hji; rw [← HZ.out]; exact ⟨by omega, by omega⟩
          · exact HJ.out j (by omega)
    · obtain rfl : i = 4 := by omega
      go_wp2_with fail
      go_ret
      have hyes := (four_all Win).1 HJ.out
      exact ⟨by rw [show winB a b c d = true from decide_eq_true hyes]; rfl, al w _⟩
end

set_option maxRecDepth 100000 in
set_option maxHeartbeats 4000000 in
theorem lis_any {w : World} {s : Bool} {A B : Option Addr} {n c m d b : Nat} {x : Rat} (h : Rn w s A n c B m d b x) (h1 : x.num.natAbs ≤ 9223372036854775807) (h2 : x.den ≤ 9223372036854775807) :
    Calls Try.prog 13 #[.agg #[.bool s, .slice A n c, .slice B m d], .agg #[.int .i64 x.num, .int .i64 (x.den : Int)]] w fun e w' => e = .returned (.bool true) ∧ Below w.heap.size w w' := by
  have HS := Lib.hid h.1
  have HA := Lib.hid h; clear h
  go_enter Try.func13, Try.ntmps13
  go_upto_region 1 with (fail)
  obtain ⟨X, hX⟩ : ∃ X : Array Value, X = #[.bool s, .slice A n c, .slice B m d] := ⟨_, rfl⟩
  obtain ⟨Y, hY⟩ : ∃ Y : Array Value, Y = #[.int .i64 x.num, .int .i64 (x.den : Int)] := ⟨_, rfl⟩
  have hW : Below w.heap.size w ((w.alloc (.cells X 29)).alloc (.cells Y 35)) := (al w _).alloc (by simp) _
  have h2' : Blk ((w.alloc (.cells X 29)).alloc (.cells Y 35)) w.heap.size 29 X := (Blk.new w _ _).alloc _
  have h3 : Blk ((w.alloc (.cells X 29)).alloc (.cells Y 35)) (w.heap.size + 1) 35 Y := by
    have := (Blk.new (w.alloc (.cells X 29)) 35 Y)
    simpa using this
  rw [hX, hY] at hW h2' h3
  clear hX hY
  generalize (w.alloc (.cells #[.bool s, .slice A n c, .slice B m d] 29)).alloc (.cells #[.int .i64 x.num, .int .i64 (x.den : Int)] 35) = w0 at hW h2' h3 ⊢
  clear X Y
  replace HA := Lib.hid (HA.out.new hW)
  have HW := Lib.hid hW; clear hW
  have T2 : Hid (TB w0 w.heap.size 29 (.bool s) (.slice A n c) (.slice B m d)) := Lib.hid h2'
  have T3 : Hid (GB w0 (w.heap.size + 1) 35 (.int .i64 x.num) (.int .i64 (x.den : Int))) := Lib.hid h3
  clear h2' h3
  have a0 := T2.out.c0; have a1 := T2.out.c1; have a2 := T2.out.c2
  go_wp2_with fail
  refine (normal_any HA.out).mono ?_
  rintro e w1 ⟨rfl, hb⟩
  replace HA := Lib.hid (HA.out.new hb)
  replace T2 := Lib.hid (T2.out.new hb); replace T3 := Lib.hid (T3.out.new hb)
  replace HW := Lib.hid (bthen HW.out hb HW.out.size)
  clear hb a0 a1 a2
  have a0 := T2.out.c0; have a1 := T2.out.c1; have a2 := T2.out.c2; have b0 := T3.out.c0; have b1 := T3.out.c1
  have hz := HS.out
  have hN : x.num = (if s = true then -(x.num.natAbs : Int) else (x.num.natAbs : Int)) := by
    rw [hz]
    by_cases h : x.num < 0
    · rw [if_pos (by simpa using h)]; omega
    · rw [if_neg (by simpa using h)]; omega
  have ts : (s == decide (x.num < 0)) = true := by rw [hz]; simp
  have hu1 := (u64_n HA.out.2.1.1)
  have hu2 := (u64_n HA.out.2.2.1)
  have hd0 := x.den_nz
  have hneg : s = true → x.num < 0 := fun h => by rw [hz] at h; simpa using h
  have hpos : s = false → 0 ≤ x.num := fun h => by rw [hz] at h; simpa using h
  clear HS hz HA T2 T3
  generalize x.num.natAbs = k at *
  generalize x.den = q at *
  generalize x.num = z at *
  have HU1 := Lib.hid hu1; have HU2 := Lib.hid hu2; clear hu1 hu2
  have HF := Lib.hid (And.intro hN (And.intro hneg (And.intro hpos ts))); clear hN hneg hpos ts
  go_wp2_with fail
  refine HU1.out.mono ?_
  rintro e w2 ⟨hu1, -, rfl⟩
  obtain rfl := hu1 (by omega)
  clear hu1
  go_wp2_with fail
  refine HU2.out.mono ?_
  rintro e w2 ⟨hu1, -, rfl⟩
  obtain rfl := hu1 (by omega)
  clear hu1
  obtain ⟨hN, hneg, hpos, ts⟩ := HF.out
  clear HF HU1 HU2
  cases s
  · have hz0 := hpos rfl
    simp only [Bool.false_eq_true, if_false] at hN
    subst hN
    have tz : decide ((k : Int) < 0) = false := by simp
    clear hneg hpos
    go_wp2_with fail
    go_ret
    exact ⟨rfl, HW.out⟩
  · have hz0 := hneg rfl
    simp only [if_true] at hN
    have tz : decide (z < 0) = true := by simp [hz0]
    have e1 : -z = (k : Int) := by omega
    clear hneg hpos hN
    go_wp2_with fail
    go_ret
    exact ⟨rfl, HW.out⟩
end Go.Proofs.Ytifnbpkcnkfanaa
namespace Go.Proofs.Ytifnbpkcnkfanaa
open Go.RowKit

theorem one_div (z : Int) : (z : Rat) / ((1 : Int) : Rat) = (z : Rat) := by rw [Rat.intCast_one]; grind
theorem frac_le (n d : Int) (hd : d ≠ 0) : ((n : Rat) / (d : Rat)).num.natAbs ≤ n.natAbs ∧ ((n : Rat) / (d : Rat)).den ≤ d.natAbs := by
  have h0 : d.natAbs ≠ 0 := by omega
  rw [← qv_frac n d hd, qv_abs h0, qv_den h0]
  exact ⟨Nat.div_le_self _ _, Nat.div_le_self _ _⟩
/-- A fraction of the reference. -/
def QL (x : Rat) : Value := .agg #[.int .i64 x.num, .int .i64 (x.den : Int)]
/-- A number. -/
def Nv (b N : Nat) (v : Value) (w : World) : Prop := ∃ A k c, v = .slice A k c ∧ Num w A k c b N
theorem Nv.new {b N : Nat} {v : Value} {w w' : World} (h : Nv b N v w) (hb : Below w.heap.size w w') : Nv b N v w' := by
  obtain ⟨A, k, c, h1, h2⟩ := h
  exact ⟨A, k, c, h1, h2.new hb⟩
theorem low_v (n d : Int) (h1 : -9223372036854775807 ≤ n) (h2 : n ≤ 9223372036854775807) (h3 : -9223372036854775807 ≤ d) (h4 : d ≤ 9223372036854775807) (hd : d ≠ 0) (v v' : Value) (hv : v = .int .i64 n) (hv' : v' = .int .i64 d) (w : World) :
    Calls Try.prog 14 #[v, v'] w (RV w (fun u _ => u = QL ((n : Rat) / (d : Rat)))) := by
  subst hv; subst hv'
  exact rv_one (rlow_any n d h1 h2 h3 h4 hd)
theorem is_v {w : World} {b : Nat} {x y : Rat} {v v' : Value} (h : Rv b x v w) (hv : v' = QL y) (hxy : x = y) (hz : y.num.natAbs ≤ 9223372036854775807 ∧ y.den ≤ 9223372036854775807) : Calls Try.prog 13 #[v, v'] w (RV w (fun u _ => u = .bool true)) := by
  subst hv; subst hxy
  obtain ⟨s, A, n, c, B, m, d, rfl, h⟩ := h
  exact rv_one (lis_any h hz.1 hz.2)
theorem nof_v (k : Nat) (hk : k < 18446744073709551616) (v : Value) (hv : v = .int .u64 k) (w : World) : Calls Try.prog 17 #[v] w (RV w (Nv 2 k)) := by
  subst hv
  refine (of_n k hk w).mono ?_
  rintro e w1 ⟨A, n, c, rfl, h, -, hb⟩
  exact ⟨_, rfl, ⟨A, n, c, rfl, h⟩, hb⟩
theorem fromnat_v {w : World} {b N : Nat} {v : Value} (h : Nv b N v w) (hb : b ≤ 4900) : Calls Try.prog 16 #[v] w (RV w (Rv b (N : Rat))) := by
  obtain ⟨A, n, c, rfl, h⟩ := h
  refine (qnat_any h (by omega)).mono ?_
  rintro e w1 ⟨s1, A1, n1, c1, B1, m1, d1, rfl, h1, hb1⟩
  exact ⟨_, rfl, ⟨s1, A1, n1, c1, B1, m1, d1, rfl, h1⟩, hb1⟩
theorem call_low : callsB Try.prog 14 = true := by kernel_rfl
theorem call_is : callsB Try.prog 13 = true := by kernel_rfl
theorem call_nof : callsB Try.prog 17 = true := by kernel_rfl
theorem call_fromnat : callsB Try.prog 16 = true := by kernel_rfl
section
variable {o : Oper} {a : Act} {w : World} {t : Tmp} {g : Nat}
theorem idx_0 (ho : o.op = .indexAddr 22 (.tmp t) (.const (.int .i64 0))) (hx : tv a t = .pointer (some ⟨g, 0, none⟩)) : gives Try.prog o a.eval w (fun v w' => v = .pointer (some ⟨g, 0, none⟩) ∧ Below w.heap.size w w') := by
  refine gives_val (.pointer (some ⟨g, 0, none⟩)) ?_ ⟨rfl, Below.refl _ _⟩
  unfold execOp; rw [ho]; simp only [eval_tmp, eval_const, hx]; go_simp
theorem idx_1 (ho : o.op = .indexAddr 22 (.tmp t) (.const (.int .i64 1))) (hx : tv a t = .pointer (some ⟨g, 0, none⟩)) : gives Try.prog o a.eval w (fun v w' => v = .pointer (some ⟨g, 1, none⟩) ∧ Below w.heap.size w w') := by
  refine gives_val (.pointer (some ⟨g, 1, none⟩)) ?_ ⟨rfl, Below.refl _ _⟩
  unfold execOp; rw [ho]; simp only [eval_tmp, eval_const, hx]; go_simp
theorem idx_2 (ho : o.op = .indexAddr 22 (.tmp t) (.const (.int .i64 2))) (hx : tv a t = .pointer (some ⟨g, 0, none⟩)) : gives Try.prog o a.eval w (fun v w' => v = .pointer (some ⟨g, 2, none⟩) ∧ Below w.heap.size w w') := by
  refine gives_val (.pointer (some ⟨g, 2, none⟩)) ?_ ⟨rfl, Below.refl _ _⟩
  unfold execOp; rw [ho]; simp only [eval_tmp, eval_const, hx]; go_simp
theorem idx_3 (ho : o.op = .indexAddr 22 (.tmp t) (.const (.int .i64 3))) (hx : tv a t = .pointer (some ⟨g, 0, none⟩)) : gives Try.prog o a.eval w (fun v w' => v = .pointer (some ⟨g, 3, none⟩) ∧ Below w.heap.size w w') := by
  refine gives_val (.pointer (some ⟨g, 3, none⟩)) ?_ ⟨rfl, Below.refl _ _⟩
  unfold execOp; rw [ho]; simp only [eval_tmp, eval_const, hx]; go_simp
theorem load_i64 {p : Addr} {z : Int} (ho : o.op = .load 2 (.tmp t)) (hx : tv a t = .pointer (some p)) (hc : w.cell? p = some (.int .i64 z)) : gives Try.prog o a.eval w (fun u w' => u = .int .i64 z ∧ Below w.heap.size w w') := by
  refine gives_val (.int .i64 z) ?_ ⟨rfl, Below.refl _ _⟩
  unfold execOp; rw [ho]; simp only [eval_tmp, hx]; go_simp
theorem conv_u64 {k : Nat} (hk : k < 9223372036854775808) (ho : o.op = .convert 2 40 (.tmp t)) (hx : tv a t = .int .i64 (k : Int)) : gives Try.prog o a.eval w (fun u w' => u = .int .u64 (k : Int) ∧ Below w.heap.size w w') := by
  refine gives_val (.int .u64 (k : Int)) ?_ ⟨rfl, Below.refl _ _⟩
  have e : IntKind.u64.wrap (k : Int) = (k : Int) := IntWalk.u64_in _ (by omega)
  unfold execOp; rw [ho]; simp only [eval_tmp, hx]; go_simp
theorem build_zero (ho : o.op = .build 29 #[]) : gives Try.prog o a.eval w (fun v w' => Rw 1 0 v w' ∧ Below w.heap.size w w') := by
  refine gives_val (.agg #[.bool false, .slice none 0 0, .slice none 0 0]) ?_ ⟨rw_zero _, Below.refl _ _⟩
  unfold execOp; rw [ho]; go_simp
end
/-- The Rat that RatMakes lays by hand. -/
theorem raw_world (W : World) (s : Bool) (k y : Nat) (hk : k < 4294967296) (hy : y < 4294967296) :
    (fun W3 => Bx 3 (qv s k y) (W.heap.size + 2) W3 ∧ Below W.heap.size W W3)
      (((W.alloc (.cells #[.int .u32 (k : Int), .int .u32 0, .int .u32 0] 23)).alloc (.cells #[.int .u32 (y : Int), .int .u32 0] 23)).alloc (.cells #[.bool s, .slice (some ⟨W.heap.size, 0, none⟩) 3 3, .slice (some ⟨W.heap.size + 1, 0, none⟩) 2 2] 29)) := by
  have b1 : Blk (W.alloc (.cells #[.int .u32 (k : Int), .int .u32 0, .int .u32 0] 23)) W.heap.size 23 (urow [k, 0, 0]) := by
    have := Blk.new W 23 (urow [k, 0, 0])
    simpa [urow, U32] using this
  have z1 : (W.alloc (.cells #[.int .u32 (k : Int), .int .u32 0, .int .u32 0] 23)).heap.size = W.heap.size + 1 := by simp
  have l1 := al W (.cells #[.int .u32 (k : Int), .int .u32 0, .int .u32 0] 23)
  generalize W.alloc (.cells #[.int .u32 (k : Int), .int .u32 0, .int .u32 0] 23) = W1 at *
  have b2 : Blk (W1.alloc (.cells #[.int .u32 (y : Int), .int .u32 0] 23)) (W.heap.size + 1) 23 (urow [y, 0]) := by
    have := Blk.new W1 23 (urow [y, 0])
    rw [z1] at this
    simpa [urow, U32] using this
  have z2 : (W1.alloc (.cells #[.int .u32 (y : Int), .int .u32 0] 23)).heap.size = W.heap.size + 2 := by simp [z1]
  have l2 := al W1 (.cells #[.int .u32 (y : Int), .int .u32 0] 23)
  replace b1 := b1.below l2 b1.lt
  replace l1 := bthen l1 l2 l1.size
  generalize W1.alloc (.cells #[.int .u32 (y : Int), .int .u32 0] 23) = W2 at *
  have b3 := TB.made W2 29 (.bool s) (.slice (some ⟨W.heap.size, 0, none⟩) 3 3) (.slice (some ⟨W.heap.size + 1, 0, none⟩) 2 2)
  have l3 := al W2 (.cells #[.bool s, .slice (some ⟨W.heap.size, 0, none⟩) 3 3, .slice (some ⟨W.heap.size + 1, 0, none⟩) 2 2] 29)
  rw [z2] at b3
  replace b1 := b1.below l3 b1.lt
  replace b2 := b2.below l3 b2.lt
  replace l1 := bthen l1 l3 l1.size
  generalize W2.alloc (.cells #[.bool s, .slice (some ⟨W.heap.size, 0, none⟩) 3 3, .slice (some ⟨W.heap.size + 1, 0, none⟩) 2 2] 29) = W3 at *
  have hp : k < PB 3 ∧ y < PB 3 := by
    have : PB 1 ≤ PB 3 := PB_mono (by omega)
    have h1 : PB 1 = 4294967296 * 4294967296 ∨ 4294967296 ≤ PB 1 := .inr (by rw [PB]; omega)
    rcases h1 with h | h <;> omega
  have e1 := Es.of_blk b1 (by simp) (by simp; omega)
  have e2 := Es.of_blk b2 (by simp) (by simp; omega)
  refine ⟨⟨s, _, 3, 3, _, 2, 2, b3, k, y, ⟨Nat.le_refl _, by omega, by omega, hp.1, [k, 0, 0], e1, by simp [valB]⟩, ⟨Nat.le_refl _, by omega, by omega, hp.2, [y, 0], e2, by simp [valB]⟩, rfl⟩, l1⟩
end Go.Proofs.Ytifnbpkcnkfanaa
