/-
  The walk of RatOrders.
-/
import Derived.Test.YtifnbpkcnkfanaaQW
namespace Go.Proofs.Ytifnbpkcnkfanaa
open Go.RowKit
set_option linter.unusedSimpArgs false

theorem rcq_rg (x y : Rat) : -1 ≤ rcq x y ∧ rcq x y ≤ 1 := by unfold rcq; split <;> (try split) <;> omega
theorem sign_rng (n : Int) : -1 ≤ n.sign ∧ n.sign ≤ 1 := by
  rcases Int.lt_trichotomy n 0 with h | h | h
  · rw [Int.sign_eq_neg_one_of_neg h]; omega
  · rw [h]; simp
  · rw [Int.sign_eq_one_of_pos h]; omega
theorem prod_rng {i j : Int} (hi : -1 ≤ i ∧ i ≤ 1) (hj : -1 ≤ j ∧ j ≤ 1) : -1000 ≤ i * j ∧ i * j ≤ 1000 := by
  have : i = -1 ∨ i = 0 ∨ i = 1 := by omega
  rcases this with h | h | h <;> subst h <;> omega
theorem rcq_anti (x y : Rat) : rcq x y = -(rcq y x) := by
  unfold rcq
  by_cases h1 : x < y
  · rw [if_pos h1, if_neg (by grind), if_pos h1]
  · rw [if_neg h1]
    by_cases h2 : y < x
    · rw [if_pos h2, if_pos h2]; rfl
    · rw [if_neg h2, if_neg h2, if_neg h1]; rfl
theorem sign_of (x : Rat) : x.num.sign = rcq x 0 := by
  unfold rcq
  have hn := @Rat.num_nonneg x
  have hz := @Rat.num_eq_zero x
  by_cases h1 : x < 0
  · rw [if_pos h1]
    have : ¬ 0 ≤ x.num := fun h => by have := hn.1 h; grind
    exact Int.sign_eq_neg_one_of_neg (by omega)
  · rw [if_neg h1]
    by_cases h2 : 0 < x
    · rw [if_pos h2]
      have h3 := hn.2 (by grind)
      have h4 : x.num ≠ 0 := fun h => by have := hz.1 h; grind
      exact Int.sign_eq_one_of_pos (by omega)
    · rw [if_neg h2]
      have : x = 0 := by grind
      rw [this]; rfl
theorem rcq_congr {a b c d : Rat} (h1 : a < b ↔ c < d) (h2 : b < a ↔ d < c) : rcq a b = rcq c d := by unfold rcq; simp only [h1, h2]
theorem rcq_sub (x y : Rat) : rcq x y = (x - y).num.sign := by
  rw [sign_of]; exact rcq_congr (by constructor <;> intro <;> grind) (by constructor <;> intro <;> grind)
theorem rcq_zero (x y : Rat) : rcq x y = 0 ↔ x = y := by
  constructor
  · intro h
    unfold rcq at h
    by_cases h1 : x < y
    · rw [if_pos h1] at h; omega
    · rw [if_neg h1] at h
      by_cases h2 : y < x
      · rw [if_pos h2] at h; omega
      · grind
  · exact rcq_eq
theorem rcq_le (x y : Rat) : rcq x y ≤ 0 ↔ x ≤ y := by
  unfold rcq
  by_cases h1 : x < y
  · rw [if_pos h1]; constructor
    · intro; grind
    · intro; omega
  · rw [if_neg h1]
    by_cases h2 : y < x
    · rw [if_pos h2]; constructor
      · intro h; omega
      · intro h; grind
    · rw [if_neg h2]; constructor
      · intro; grind
      · intro; omega
theorem rcq_add (x y z : Rat) : rcq (x + z) (y + z) = rcq x y := rcq_congr (by constructor <;> intro <;> grind) (by constructor <;> intro <;> grind)
theorem rcq_mul (x y z : Rat) : rcq (x * z) (y * z) = rcq x y * z.num.sign := by
  rw [sign_of z]
  by_cases h1 : 0 < z
  · rw [rcq_gt h1, Int.mul_one]
    exact rcq_congr (Rat.mul_lt_mul_right h1) (Rat.mul_lt_mul_right h1)
  · by_cases h2 : z < 0
    · rw [rcq_lt h2, rcq_anti x y]
      have h3 : 0 < -z := by grind
      have e1 := Rat.mul_lt_mul_right (a := x) (b := y) h3
      have e2 := Rat.mul_lt_mul_right (a := y) (b := x) h3
      have : rcq (x * z) (y * z) = rcq y x := rcq_congr (by constructor <;> intro <;> grind) (by constructor <;> intro <;> grind)
      rw [this]; omega
    · have : z = 0 := by grind
      subst this
      rw [rcq_eq (show x * 0 = y * 0 by grind), rcq_eq rfl]; omega

set_option maxRecDepth 100000 in
set_option maxHeartbeats 8000000 in
theorem orders_near {w : World} {s0 : Bool} {A0 B0 : Option Addr} {n0 c0 m0 d0 : Nat} {ds0 fs0 : List Nat} {s1 : Bool} {A1 B1 : Option Addr} {n1 c1 m1 d1 : Nat} {ds1 fs1 : List Nat} {s2 : Bool} {A2 B2 : Option Addr} {n2 c2 m2 d2 : Nat} {ds2 fs2 : List Nat} (h0 : Bg w A0 n0 c0 B0 m0 d0 ds0 fs0) (h1 : Bg w A1 n1 c1 B1 m1 d1 ds1 fs1) (h2 : Bg w A2 n2 c2 B2 m2 d2 ds2 fs2) (hn0 : n0 ≤ 8) (hm0 : m0 ≤ 8) (hn1 : n1 ≤ 8) (hm1 : m1 ≤ 8) (hn2 : n2 ≤ 8) (hm2 : m2 ≤ 8) :
    Calls Try.prog 5 #[.agg #[.bool s0, .slice A0 n0 c0, .slice B0 m0 d0], .agg #[.bool s1, .slice A1 n1 c1, .slice B1 m1 d1], .agg #[.bool s2, .slice A2 n2 c2, .slice B2 m2 d2]] w fun e w' => e = .returned (.bool true) ∧ Below w.heap.size w w' := by
  have H0 := Lib.hid h0; have H1 := Lib.hid h1; have H2 := Lib.hid h2; clear h0 h1 h2
  go_enter Try.func5, Try.ntmps5
  go_upto_region 1 with (fail)
  obtain ⟨X0, hX0⟩ : ∃ X : Array Value, X = #[.bool s0, .slice A0 n0 c0, .slice B0 m0 d0] := ⟨_, rfl⟩
  obtain ⟨X1, hX1⟩ : ∃ X : Array Value, X = #[.bool s1, .slice A1 n1 c1, .slice B1 m1 d1] := ⟨_, rfl⟩
  obtain ⟨X2, hX2⟩ : ∃ X : Array Value, X = #[.bool s2, .slice A2 n2 c2, .slice B2 m2 d2] := ⟨_, rfl⟩
  have hW : Below w.heap.size w (((w.alloc (.cells X0 44)).alloc (.cells X1 44)).alloc (.cells X2 44)) := (((al w _).alloc (by simp) _).alloc (by simp; omega) _)
  have t0 : Blk (((w.alloc (.cells X0 44)).alloc (.cells X1 44)).alloc (.cells X2 44)) (w.heap.size) 44 X0 := by
    have := Blk.new w 44 X0
    have := ((this.alloc (.cells X1 44)).alloc (.cells X2 44))
    simpa using this
  have t1 : Blk (((w.alloc (.cells X0 44)).alloc (.cells X1 44)).alloc (.cells X2 44)) (w.heap.size + 1) 44 X1 := by
    have := Blk.new (w.alloc (.cells X0 44)) 44 X1
    have := (this.alloc (.cells X2 44))
    simpa using this
  have t2 : Blk (((w.alloc (.cells X0 44)).alloc (.cells X1 44)).alloc (.cells X2 44)) (w.heap.size + 2) 44 X2 := by
    have := Blk.new ((w.alloc (.cells X0 44)).alloc (.cells X1 44)) 44 X2
    have := this
    simpa using this
  rw [hX0, hX1, hX2] at hW t0 t1 t2
  clear hX0 hX1 hX2
  generalize ((w.alloc (.cells #[.bool s0, .slice A0 n0 c0, .slice B0 m0 d0] 44)).alloc (.cells #[.bool s1, .slice A1 n1 c1, .slice B1 m1 d1] 44)).alloc (.cells #[.bool s2, .slice A2 n2 c2, .slice B2 m2 d2] 44) = w0 at hW t0 t1 t2 ⊢
  clear X0 X1 X2
  replace H0 := Lib.hid (H0.out.new hW); replace H1 := Lib.hid (H1.out.new hW); replace H2 := Lib.hid (H2.out.new hW)
  have HW := Lib.hid hW; clear hW
  have T0 : Hid (TB w0 (w.heap.size) 44 (.bool s0) (.slice A0 n0 c0) (.slice B0 m0 d0)) := Lib.hid t0
  have T1 : Hid (TB w0 (w.heap.size + 1) 44 (.bool s1) (.slice A1 n1 c1) (.slice B1 m1 d1)) := Lib.hid t1
  have T2 : Hid (TB w0 (w.heap.size + 2) 44 (.bool s2) (.slice A2 n2 c2) (.slice B2 m2 d2)) := Lib.hid t2
  clear t0 t1 t2
  have q00 := T0.out.c0; have q01 := T0.out.c1; have q02 := T0.out.c2; have q10 := T1.out.c0; have q11 := T1.out.c1; have q12 := T1.out.c2; have q20 := T2.out.c0; have q21 := T2.out.c1; have q22 := T2.out.c2
  go_wp2_with fail
  refine (gr_no hn0 hm0).mono ?_
  rintro e w1 ⟨rfl, hb⟩
  replace H0 := Lib.hid (H0.out.new hb); replace H1 := Lib.hid (H1.out.new hb); replace H2 := Lib.hid (H2.out.new hb)
  replace T0 := Lib.hid (T0.out.new hb); replace T1 := Lib.hid (T1.out.new hb); replace T2 := Lib.hid (T2.out.new hb)
  replace HW := Lib.hid (bthen HW.out hb HW.out.size)
  clear hb q00 q01 q02 q10 q11 q12 q20 q21 q22
  have q00 := T0.out.c0; have q01 := T0.out.c1; have q02 := T0.out.c2; have q10 := T1.out.c0; have q11 := T1.out.c1; have q12 := T1.out.c2; have q20 := T2.out.c0; have q21 := T2.out.c1; have q22 := T2.out.c2
  go_wp2_with fail
  refine (gr_no hn1 hm1).mono ?_
  rintro e w2 ⟨rfl, hb⟩
  replace H0 := Lib.hid (H0.out.new hb); replace H1 := Lib.hid (H1.out.new hb); replace H2 := Lib.hid (H2.out.new hb)
  replace T0 := Lib.hid (T0.out.new hb); replace T1 := Lib.hid (T1.out.new hb); replace T2 := Lib.hid (T2.out.new hb)
  replace HW := Lib.hid (bthen HW.out hb HW.out.size)
  clear hb q00 q01 q02 q10 q11 q12 q20 q21 q22
  have q00 := T0.out.c0; have q01 := T0.out.c1; have q02 := T0.out.c2; have q10 := T1.out.c0; have q11 := T1.out.c1; have q12 := T1.out.c2; have q20 := T2.out.c0; have q21 := T2.out.c1; have q22 := T2.out.c2
  go_wp2_with fail
  refine (gr_no hn2 hm2).mono ?_
  rintro e w3 ⟨rfl, hb⟩
  replace H0 := Lib.hid (H0.out.new hb); replace H1 := Lib.hid (H1.out.new hb); replace H2 := Lib.hid (H2.out.new hb)
  replace T0 := Lib.hid (T0.out.new hb); replace T1 := Lib.hid (T1.out.new hb); replace T2 := Lib.hid (T2.out.new hb)
  replace HW := Lib.hid (bthen HW.out hb HW.out.size)
  clear hb q00 q01 q02 q10 q11 q12 q20 q21 q22
  have q00 := T0.out.c0; have q01 := T0.out.c1; have q02 := T0.out.c2; have q10 := T1.out.c0; have q11 := T1.out.c1; have q12 := T1.out.c2; have q20 := T2.out.c0; have q21 := T2.out.c1; have q22 := T2.out.c2
  go_wp2_with fail
  clear q00 q01 q02 q10 q11 q12 q20 q21 q22
  obtain ⟨x, e0⟩ : ∃ x, x = qv s0 (valB 4294967296 ds0) (valB 4294967296 fs0) := ⟨_, rfl⟩
  have C0 := Lib.hid (show ∀ W, Below w3.heap.size w3 W → ∀ v, v = .agg #[.bool s0, .slice A0 n0 c0, .slice B0 m0 d0] → Calls Try.prog 20 #[v] W (RV W (Rw 8 x)) from fun W hb v hv => by rw [e0]; exact rats_v (H0.out.new hb) hn0 hm0 v hv)
  clear H0 e0 hn0 hm0
  obtain ⟨y, e1⟩ : ∃ x, x = qv s1 (valB 4294967296 ds1) (valB 4294967296 fs1) := ⟨_, rfl⟩
  have C1 := Lib.hid (show ∀ W, Below w3.heap.size w3 W → ∀ v, v = .agg #[.bool s1, .slice A1 n1 c1, .slice B1 m1 d1] → Calls Try.prog 20 #[v] W (RV W (Rw 8 y)) from fun W hb v hv => by rw [e1]; exact rats_v (H1.out.new hb) hn1 hm1 v hv)
  clear H1 e1 hn1 hm1
  obtain ⟨z, e2⟩ : ∃ x, x = qv s2 (valB 4294967296 ds2) (valB 4294967296 fs2) := ⟨_, rfl⟩
  have C2 := Lib.hid (show ∀ W, Below w3.heap.size w3 W → ∀ v, v = .agg #[.bool s2, .slice A2 n2 c2, .slice B2 m2 d2] → Calls Try.prog 20 #[v] W (RV W (Rw 8 z)) from fun W hb v hv => by rw [e2]; exact rats_v (H2.out.new hb) hn2 hm2 v hv)
  clear H2 e2 hn2 hm2
  refine wp_region_join (kss := [[], [(0, 22)], [], [(2, 24)], [], [(4, 26)], [], [], []]) [(3, .pointer (some ⟨w.heap.size, 0, none⟩)), (4, .pointer (some ⟨w.heap.size + 1, 0, none⟩)), (5, .pointer (some ⟨w.heap.size + 2, 0, none⟩))] [fun v _ => v = .agg #[.bool s0, .slice A0 n0 c0, .slice B0 m0 d0], Rw 8 x, fun v _ => v = .agg #[.bool s1, .slice A1 n1 c1, .slice B1 m1 d1], Rw 8 y, fun v _ => v = .agg #[.bool s2, .slice A2 n2 c2, .slice B2 m2 d2], Rw 8 z, Zb w3.heap.size, Zb w3.heap.size, Zb w3.heap.size] 9 [] (by kernel_rfl) (by kernel_rfl) ⟨rfl, rfl, rfl, trivial⟩ [false, false, false, false, false, false, true, true, true] ?_ ?_ ?_ ?_
  · exact fun i hi => absurd hi (by simp)
  · exact ⟨fun _ _ _ h _ => h, fun _ _ _ h hb => Rw.new h hb, fun _ _ _ h _ => h, fun _ _ _ h hb => Rw.new h hb, fun _ _ _ h _ => h, fun _ _ _ h hb => Rw.new h hb, fun _ _ _ h hb => Zb.new h hb, fun _ _ _ h hb => Zb.new h hb, fun _ _ _ h hb => Zb.new h hb, trivial⟩
  · refine ⟨?_, ?_, ?_, ?_, ?_, ?_, ?_, ?_, ?_, trivial⟩
    · exact fun a w hb he _ => ob_plain rfl (load_big rfl he.1 (T0.out.new hb))
    · exact fun a w hb _ hd => ob_plain rfl (gives_call1 _ _ _ rfl call_rats (C0.out w hb _ hd.1))
    · exact fun a w hb he _ => ob_plain rfl (load_big rfl he.2.1 (T1.out.new hb))
    · exact fun a w hb _ hd => ob_plain rfl (gives_call1 _ _ _ rfl call_rats (C1.out w hb _ hd.1))
    · exact fun a w hb he _ => ob_plain rfl (load_big rfl he.2.2.1 (T2.out.new hb))
    · exact fun a w hb _ hd => ob_plain rfl (gives_call1 _ _ _ rfl call_rats (C2.out w hb _ hd.1))
    · exact fun a w hb _ _ => ⟨by simp [Region.wanted], alloc_rat rfl hb⟩
    · exact fun a w hb _ _ => ⟨by simp [Region.wanted], alloc_rat rfl hb⟩
    · exact fun a w hb _ _ => ⟨by simp [Region.wanted], alloc_rat rfl hb⟩
  intro vs w5 hb hR hN
  have r0 : Rw 8 x (vs 1) w5 := hR 1 (by omega)
  have r1 : Rw 8 y (vs 3) w5 := hR 3 (by omega)
  have r2 : Rw 8 z (vs 5) w5 := hR 5 (by omega)
  obtain ⟨g0, k0, z0⟩ : Zb w3.heap.size (vs 6) w5 := hR 6 (by omega)
  obtain ⟨g1, k1, z1⟩ : Zb w3.heap.size (vs 7) w5 := hR 7 (by omega)
  obtain ⟨g2, k2, z2⟩ : Zb w3.heap.size (vs 8) w5 := hR 8 (by omega)
  have ne01 : g0 ≠ g1 := fun h => hN 6 7 (by omega) (by omega) (by omega) rfl rfl (by rw [k0, k1, h])
  have ne02 : g0 ≠ g2 := fun h => hN 6 8 (by omega) (by omega) (by omega) rfl rfl (by rw [k0, k2, h])
  have ne12 : g1 ≠ g2 := fun h => hN 7 8 (by omega) (by omega) (by omega) rfl rfl (by rw [k1, k2, h])
  clear hN hR
  simp only [putsL, Nat.zero_add, Nat.reduceAdd, List.take_succ_cons, List.take_zero, Act.put, List.setIfInBounds_toArray, List.set_cons_zero, List.set_cons_succ]
  rw [k0, k1, k2]
  generalize vs 1 = u0 at *
  generalize vs 3 = u1 at *
  generalize vs 5 = u2 at *
  show wpAny _ _ _ _ 3 _ _ _
  clear k0 k1 k2
  refine wpAny_next (i := 9) (by kernel_rfl) rfl rfl (store_rat rfl rfl rfl rfl z0 r0 ?_)
  intro w6 x0 K0
  have hb0 : Below w3.heap.size w3 w6 := K0.below z0.1 hb
  replace r1 := K0.rw r1; replace z1 := K0.zx (Ne.symm ne01) z1
  replace r2 := K0.rw r2; replace z2 := K0.zx (Ne.symm ne02) z2
  refine wpAny_next (i := 10) (by kernel_rfl) rfl rfl (store_rat rfl rfl rfl rfl z1 r1 ?_)
  intro w7 x1 K1
  have hb1 : Below w3.heap.size w3 w7 := K1.below z1.1 hb0
  replace x0 := K1.bx ne01 x0
  replace r2 := K1.rw r2; replace z2 := K1.zx (Ne.symm ne12) z2
  refine wpAny_next (i := 11) (by kernel_rfl) rfl rfl (store_rat rfl rfl rfl rfl z2 r2 ?_)
  intro w8 x2 K2
  have hb2 : Below w3.heap.size w3 w8 := K2.below z2.1 hb1
  replace x0 := K2.bx ne02 x0
  replace x1 := K2.bx ne12 x1
  refine wpAny_end (by kernel_rfl) (calm_normal ?_) _
  replace HW := Lib.hid (bthen HW.out hb2 HW.out.size)
  have BXx := Lib.hid x0; have BXy := Lib.hid x1; have BXz := Lib.hid x2
  clear x0 hb0 r0 z0 K0 C0 T0 x1 hb1 r1 z1 K1 C1 T1 x2 hb2 r2 z2 K2 C2 T2 hb ne01 ne02 ne12
  go_upto_region 4 with (fail)
  refine wp_region_seq (kss := [[], [], [(0, 28), (1, 29)], [(2, 30)]]) [(7, .pointer (some ⟨g0, 0, none⟩)), (8, .pointer (some ⟨g1, 0, none⟩))] [Rw 8 (x), Rw 8 (y), fun v _ => v = .int .i64 (rcq (x) (y)), fun v _ => v = .int .i64 (rcq (x) (y))] (by kernel_rfl) ⟨rfl, rfl, trivial⟩ ?_ ?_ ?_
  · exact ⟨fun _ _ _ h hb => Rw.new h hb, fun _ _ _ h hb => Rw.new h hb, fun _ _ _ h _ => h, fun _ _ _ h _ => h, trivial⟩
  · refine ⟨?_, ?_, ?_, ?_, trivial⟩
    · exact fun a w hb he hd => ob_plain rfl (load_bx rfl he.1 (Bx.new BXx.out hb))
    · exact fun a w hb he hd => ob_plain rfl (load_bx rfl he.2.1 (Bx.new BXy.out hb))
    · exact fun a w hb he hd => ob_plain rfl (gives_call2 _ _ _ _ rfl call_cmp (cmp_v hd.1 hd.2.1 (by omega)))
    · exact fun a w hb he hd => ob_plain rfl (gives_assign _ rfl ⟨hd.1, Below.refl _ _⟩)
  intro vs w20 hb hR
  have e10 : vs 3 = .int .i64 (rcq (x) (y)) := hR 3 (by decide)
  clear hR
  simp only [putsL, Nat.zero_add, Nat.reduceAdd, List.take_succ_cons, List.take_zero, Act.put, List.setIfInBounds_toArray, List.set_cons_zero, List.set_cons_succ]
  rw [e10]
  clear e10
  replace BXx := Lib.hid (Bx.new BXx.out hb)
  replace BXy := Lib.hid (Bx.new BXy.out hb)
  replace BXz := Lib.hid (Bx.new BXz.out hb)
  replace HW := Lib.hid (bthen HW.out hb HW.out.size); clear hb
  go_wp2_with fail
  have t53 : ((rcq x y == 0) != decide (x = y)) = false := by by_cases h : x = y <;> simp [h, rcq_zero]
  refine wp_region_each (kss := [[], [], [], [(1, 32), (2, 33)], [(3, 34)], [(0, 31), (4, 35)], [(5, 36)], [(6, 37)], [(6, 37)], [(6, 37)], [(6, 37), (8, 39), (9, 40)], [(6, 37), (10, 41)], [(6, 37), (7, 38), (11, 42)], [(6, 37), (12, 43)], [(13, 44)], [(14, 45)], [(14, 45), (15, 46)], [(14, 45)], [(14, 45), (17, 48)], [(14, 45)], [(14, 45), (19, 50)], [(14, 45), (18, 49), (20, 51)], [(14, 45), (16, 47), (21, 52)], [(14, 45), (22, 53)]]) [(10, .int .i64 (rcq (x) (y))), (8, .pointer (some ⟨g1, 0, none⟩)), (7, .pointer (some ⟨g0, 0, none⟩))] [fun v _ => v = .int .i64 (rcq (x) (y)), Rw 8 (y), Rw 8 (x), fun v _ => v = .int .i64 (rcq (y) (x)), fun v _ => v = .int .i64 (-(rcq (y) (x))), fun v _ => v = .bool (false), fun v _ => v = .bool (false), fun v _ => v = .int .i64 (rcq (x) (y)), Rw 8 (x), Rw 8 (y), Rv 17 (x - y), fun v _ => v = .int .i64 ((x - y).num.sign), fun v _ => v = .bool (false), fun v _ => v = .bool (false), fun v _ => v = .bool (false), fun v _ => v = .int .i64 (rcq (x) (y)), fun v _ => v = .bool ((rcq (x) (y)) == (0)), Rw 8 (x), Rv 8 (x), Rw 8 (y), Rv 8 (y), fun v _ => v = .bool (decide ((x) = (y))), fun v _ => v = .bool (false), fun v _ => v = .bool (false)] (by kernel_rfl) (by kernel_rfl) ⟨rfl, rfl, rfl, trivial⟩ ?_ ?_ ?_
  · exact ⟨fun _ _ _ h _ => h, fun _ _ _ h hb => Rw.new h hb, fun _ _ _ h hb => Rw.new h hb, fun _ _ _ h _ => h, fun _ _ _ h _ => h, fun _ _ _ h _ => h, fun _ _ _ h _ => h, fun _ _ _ h _ => h, fun _ _ _ h hb => Rw.new h hb, fun _ _ _ h hb => Rw.new h hb, fun _ _ _ h hb => Rv.new h hb, fun _ _ _ h _ => h, fun _ _ _ h _ => h, fun _ _ _ h _ => h, fun _ _ _ h _ => h, fun _ _ _ h _ => h, fun _ _ _ h _ => h, fun _ _ _ h hb => Rw.new h hb, fun _ _ _ h hb => Rv.new h hb, fun _ _ _ h hb => Rw.new h hb, fun _ _ _ h hb => Rv.new h hb, fun _ _ _ h _ => h, fun _ _ _ h _ => h, fun _ _ _ h _ => h, trivial⟩
  · refine ⟨?_, ?_, ?_, ?_, ?_, ?_, ?_, ?_, ?_, ?_, ?_, ?_, ?_, ?_, ?_, ?_, ?_, ?_, ?_, ?_, ?_, ?_, ?_, ?_, trivial⟩
    · exact fun a w hb he hd => ob_plain rfl (gives_move _ rfl ⟨he.1, Below.refl _ _⟩)
    · exact fun a w hb he hd => ob_plain rfl (load_bx rfl he.2.1 (Bx.new BXy.out hb))
    · exact fun a w hb he hd => ob_plain rfl (load_bx rfl he.2.2.1 (Bx.new BXx.out hb))
    · exact fun a w hb he hd => ob_plain rfl (gives_call2 _ _ _ _ rfl call_cmp (cmp_v hd.1 hd.2.1 (by omega)))
    · exact fun a w hb he hd => ob_plain rfl (gives_neg_int (rcq (y) (x)) _ _ rfl hd.1 (by have := rcq_rg y x; omega) ⟨rfl, Below.refl _ _⟩)
    · exact fun a w hb he hd => ob_plain rfl (gives_ne_int (rcq (x) (y)) (-(rcq (y) (x))) .i64 _ _ _ _ rfl hd.1 hd.2.1 ⟨congrArg Value.bool (by rw [rcq_anti x y]; simp), Below.refl _ _⟩)
    · exact fun a w hb he hd => ob_plain rfl (gives_move _ rfl ⟨hd.1, Below.refl _ _⟩)
    · exact fun a w hb he hd => ob_on 37 rfl (by kernel_rfl) hd.1 (gives_move _ rfl ⟨he.1, Below.refl _ _⟩)
    · exact fun a w hb he hd => ob_on 37 rfl (by kernel_rfl) hd.1 (load_bx rfl he.2.2.1 (Bx.new BXx.out hb))
    · exact fun a w hb he hd => ob_on 37 rfl (by kernel_rfl) hd.1 (load_bx rfl he.2.1 (Bx.new BXy.out hb))
    · exact fun a w hb he hd => ob_on 37 rfl (by kernel_rfl) hd.1 (gives_call2 _ _ _ _ rfl call_sub (sub_v hd.2.1 hd.2.2.1 (by omega)))
    · exact fun a w hb he hd => ob_on 37 rfl (by kernel_rfl) hd.1 (gives_call1 _ _ _ rfl call_sign (sign_v hd.2.1.rw))
    · exact fun a w hb he hd => ob_on 37 rfl (by kernel_rfl) hd.1 (gives_ne_int (rcq (x) (y)) ((x - y).num.sign) .i64 _ _ _ _ rfl hd.2.1 hd.2.2.1 ⟨congrArg Value.bool (by rw [rcq_sub x y]; simp), Below.refl _ _⟩)
    · exact fun a w hb he hd => ob_plain rfl (gives_pick false _ _ _ rfl hd.1 ⟨hd.2.1, Below.refl _ _⟩)
    · exact fun a w hb he hd => ob_plain rfl (gives_move _ rfl ⟨hd.1, Below.refl _ _⟩)
    · exact fun a w hb he hd => ob_on 45 rfl (by kernel_rfl) hd.1 (gives_move _ rfl ⟨he.1, Below.refl _ _⟩)
    · exact fun a w hb he hd => ob_on 45 rfl (by kernel_rfl) hd.1 (gives_eq_int (rcq (x) (y)) (0) .i64 _ _ _ _ rfl hd.2.1 rfl ⟨rfl, Below.refl _ _⟩)
    · exact fun a w hb he hd => ob_on 45 rfl (by kernel_rfl) hd.1 (load_bx rfl he.2.2.1 (Bx.new BXx.out hb))
    · exact fun a w hb he hd => ob_on 45 rfl (by kernel_rfl) hd.1 (gives_call1 _ _ _ rfl call_norm (norm_v hd.2.1 (by omega)))
    · exact fun a w hb he hd => ob_on 45 rfl (by kernel_rfl) hd.1 (load_bx rfl he.2.1 (Bx.new BXy.out hb))
    · exact fun a w hb he hd => ob_on 45 rfl (by kernel_rfl) hd.1 (gives_call1 _ _ _ rfl call_norm (norm_v hd.2.1 (by omega)))
    · exact fun a w hb he hd => ob_on 45 rfl (by kernel_rfl) hd.1 (gives_call2 _ _ _ _ rfl call_same (same_v hd.2.1 hd.2.2.1))
    · exact fun a w hb he hd => ob_on 45 rfl (by kernel_rfl) hd.1 (gives_ne_bool ((rcq (x) (y)) == (0)) (decide ((x) = (y))) _ _ _ _ rfl Try.underlying4 hd.2.1 hd.2.2.1 ⟨congrArg Value.bool (t53), Below.refl _ _⟩)
    · exact fun a w hb he hd => ob_plain rfl (gives_pick false _ _ _ rfl hd.1 ⟨hd.2.1, Below.refl _ _⟩)
  intro vs w21 hb hR
  have e54 : vs 23 = .bool (false) := hR 23 (by decide)
  clear hR
  simp only [putsL, Nat.zero_add, Nat.reduceAdd, List.take_succ_cons, List.take_zero, Act.put, List.setIfInBounds_toArray, List.set_cons_zero, List.set_cons_succ]
  rw [e54]
  clear e54
  replace BXx := Lib.hid (Bx.new BXx.out hb)
  replace BXy := Lib.hid (Bx.new BXy.out hb)
  replace BXz := Lib.hid (Bx.new BXz.out hb)
  replace HW := Lib.hid (bthen HW.out hb HW.out.size); clear hb
  go_upto_region 7 with (fail)
  by_cases h1 : rcq x y ≤ 0
  · have t1 := decide_eq_true h1
    by_cases h2 : rcq y z ≤ 0
    · have t2 := decide_eq_true h2
      have t3 : decide (rcq x z > 0) = false := decide_eq_false (by have a1 := (rcq_le x y).1 h1; have a2 := (rcq_le y z).1 h2; have a3 := (rcq_le x z).2 (by grind); omega)
      refine wp_region_seq (kss := [[], [(0, 55)], [(1, 56)], [(2, 57)], [(2, 57)], [(2, 57), (3, 58), (4, 59)], [(2, 57), (5, 60)], [(2, 57), (6, 61)], [(7, 62)], [(8, 63)], [(8, 63)], [(8, 63), (9, 64), (10, 65)], [(8, 63), (11, 66)], [(8, 63), (12, 67)]]) [(10, .int .i64 (rcq (x) (y))), (8, .pointer (some ⟨g1, 0, none⟩)), (9, .pointer (some ⟨g2, 0, none⟩)), (7, .pointer (some ⟨g0, 0, none⟩))] [fun v _ => v = .int .i64 (rcq (x) (y)), fun v _ => v = .bool (true), fun v _ => v = .bool (true), Rw 8 (y), Rw 8 (z), fun v _ => v = .int .i64 (rcq (y) (z)), fun v _ => v = .bool (true), fun v _ => v = .bool (true), fun v _ => v = .bool (true), Rw 8 (x), Rw 8 (z), fun v _ => v = .int .i64 (rcq (x) (z)), fun v _ => v = .bool (false), fun v _ => v = .bool (false)] (by kernel_rfl) ⟨rfl, rfl, rfl, rfl, trivial⟩ ?_ ?_ ?_
      · exact ⟨fun _ _ _ h _ => h, fun _ _ _ h _ => h, fun _ _ _ h _ => h, fun _ _ _ h hb => Rw.new h hb, fun _ _ _ h hb => Rw.new h hb, fun _ _ _ h _ => h, fun _ _ _ h _ => h, fun _ _ _ h _ => h, fun _ _ _ h _ => h, fun _ _ _ h hb => Rw.new h hb, fun _ _ _ h hb => Rw.new h hb, fun _ _ _ h _ => h, fun _ _ _ h _ => h, fun _ _ _ h _ => h, trivial⟩
      · refine ⟨?_, ?_, ?_, ?_, ?_, ?_, ?_, ?_, ?_, ?_, ?_, ?_, ?_, ?_, trivial⟩
        · exact fun a w hb he hd => ob_plain rfl (gives_move _ rfl ⟨he.1, Below.refl _ _⟩)
        · exact fun a w hb he hd => ob_plain rfl (gives_le_int (rcq (x) (y)) (0) .i64 _ _ _ _ rfl hd.1 rfl ⟨congrArg Value.bool (t1), Below.refl _ _⟩)
        · exact fun a w hb he hd => ob_plain rfl (gives_move _ rfl ⟨hd.1, Below.refl _ _⟩)
        · exact fun a w hb he hd => ob_on 57 rfl (by kernel_rfl) hd.1 (load_bx rfl he.2.1 (Bx.new BXy.out hb))
        · exact fun a w hb he hd => ob_on 57 rfl (by kernel_rfl) hd.1 (load_bx rfl he.2.2.1 (Bx.new BXz.out hb))
        · exact fun a w hb he hd => ob_on 57 rfl (by kernel_rfl) hd.1 (gives_call2 _ _ _ _ rfl call_cmp (cmp_v hd.2.1 hd.2.2.1 (by omega)))
        · exact fun a w hb he hd => ob_on 57 rfl (by kernel_rfl) hd.1 (gives_le_int (rcq (y) (z)) (0) .i64 _ _ _ _ rfl hd.2.1 rfl ⟨congrArg Value.bool (t2), Below.refl _ _⟩)
        · exact fun a w hb he hd => ob_plain rfl (gives_pick true _ _ _ rfl hd.1 ⟨hd.2.1, Below.refl _ _⟩)
        · exact fun a w hb he hd => ob_plain rfl (gives_move _ rfl ⟨hd.1, Below.refl _ _⟩)
        · exact fun a w hb he hd => ob_on 63 rfl (by kernel_rfl) hd.1 (load_bx rfl he.2.2.2.1 (Bx.new BXx.out hb))
        · exact fun a w hb he hd => ob_on 63 rfl (by kernel_rfl) hd.1 (load_bx rfl he.2.2.1 (Bx.new BXz.out hb))
        · exact fun a w hb he hd => ob_on 63 rfl (by kernel_rfl) hd.1 (gives_call2 _ _ _ _ rfl call_cmp (cmp_v hd.2.1 hd.2.2.1 (by omega)))
        · exact fun a w hb he hd => ob_on 63 rfl (by kernel_rfl) hd.1 (gives_gt_int (rcq (x) (z)) (0) .i64 _ _ _ _ rfl hd.2.1 rfl ⟨congrArg Value.bool (t3), Below.refl _ _⟩)
        · exact fun a w hb he hd => ob_plain rfl (gives_pick true _ _ _ rfl hd.1 ⟨hd.2.1, Below.refl _ _⟩)
      intro vs w22 hb hR
      have e68 : vs 13 = .bool (false) := hR 13 (by decide)
      clear hR
      simp only [putsL, Nat.zero_add, Nat.reduceAdd, List.take_succ_cons, List.take_zero, Act.put, List.setIfInBounds_toArray, List.set_cons_zero, List.set_cons_succ]
      rw [e68]
      clear e68
      replace BXx := Lib.hid (Bx.new BXx.out hb)
      replace BXy := Lib.hid (Bx.new BXy.out hb)
      replace BXz := Lib.hid (Bx.new BXz.out hb)
      replace HW := Lib.hid (bthen HW.out hb HW.out.size); clear hb
      go_wp2_with fail
      refine wp_region_each (kss := [[], [], [(0, 69), (1, 70)], [], [], [(3, 72), (4, 73)], [(2, 71), (5, 74)], [], [(6, 75), (7, 76)], [(8, 77)], [(9, 78)], [(9, 78)], [(9, 78), (10, 79), (11, 80)], [(9, 78)], [(9, 78)], [(9, 78), (13, 82), (14, 83)], [(9, 78), (12, 81), (15, 84)], [(9, 78)], [(9, 78)], [(9, 78), (18, 87)], [(9, 78), (17, 86), (19, 88)], [(9, 78), (16, 85), (20, 89)], [(9, 78), (21, 90)], [(22, 91)], [(23, 92)], [(23, 92), (24, 93)], [(25, 94)]]) [(7, .pointer (some ⟨g0, 0, none⟩)), (9, .pointer (some ⟨g2, 0, none⟩)), (8, .pointer (some ⟨g1, 0, none⟩)), (10, .int .i64 (rcq (x) (y)))] [Rw 8 (x), Rw 8 (z), Rv 17 (x + z), Rw 8 (y), Rw 8 (z), Rv 17 (y + z), fun v _ => v = .int .i64 (rcq (x + z) (y + z)), fun v _ => v = .int .i64 (rcq (x) (y)), fun v _ => v = .bool (true), fun v _ => v = .bool (true), Rw 8 (x), Rw 8 (z), Rv 16 (x * z), Rw 8 (y), Rw 8 (z), Rv 16 (y * z), fun v _ => v = .int .i64 (rcq (x * z) (y * z)), fun v _ => v = .int .i64 (rcq (x) (y)), Rw 8 (z), fun v _ => v = .int .i64 ((z).num.sign), fun v _ => v = .int .i64 ((rcq (x) (y)) * ((z).num.sign)), fun v _ => v = .bool (true), fun v _ => v = .bool (true), fun v _ => v = .bool (true), fun v _ => v = .bool (true), fun v _ => v = .bool (true), fun v _ => v = .bool (true)] (by kernel_rfl) (by kernel_rfl) ⟨rfl, rfl, rfl, rfl, trivial⟩ ?_ ?_ ?_
      · exact ⟨fun _ _ _ h hb => Rw.new h hb, fun _ _ _ h hb => Rw.new h hb, fun _ _ _ h hb => Rv.new h hb, fun _ _ _ h hb => Rw.new h hb, fun _ _ _ h hb => Rw.new h hb, fun _ _ _ h hb => Rv.new h hb, fun _ _ _ h _ => h, fun _ _ _ h _ => h, fun _ _ _ h _ => h, fun _ _ _ h _ => h, fun _ _ _ h hb => Rw.new h hb, fun _ _ _ h hb => Rw.new h hb, fun _ _ _ h hb => Rv.new h hb, fun _ _ _ h hb => Rw.new h hb, fun _ _ _ h hb => Rw.new h hb, fun _ _ _ h hb => Rv.new h hb, fun _ _ _ h _ => h, fun _ _ _ h _ => h, fun _ _ _ h hb => Rw.new h hb, fun _ _ _ h _ => h, fun _ _ _ h _ => h, fun _ _ _ h _ => h, fun _ _ _ h _ => h, fun _ _ _ h _ => h, fun _ _ _ h _ => h, fun _ _ _ h _ => h, fun _ _ _ h _ => h, trivial⟩
      · refine ⟨?_, ?_, ?_, ?_, ?_, ?_, ?_, ?_, ?_, ?_, ?_, ?_, ?_, ?_, ?_, ?_, ?_, ?_, ?_, ?_, ?_, ?_, ?_, ?_, ?_, ?_, ?_, trivial⟩
        · exact fun a w hb he hd => ob_plain rfl (load_bx rfl he.1 (Bx.new BXx.out hb))
        · exact fun a w hb he hd => ob_plain rfl (load_bx rfl he.2.1 (Bx.new BXz.out hb))
        · exact fun a w hb he hd => ob_plain rfl (gives_call2 _ _ _ _ rfl call_add (add_v hd.1 hd.2.1 (by omega)))
        · exact fun a w hb he hd => ob_plain rfl (load_bx rfl he.2.2.1 (Bx.new BXy.out hb))
        · exact fun a w hb he hd => ob_plain rfl (load_bx rfl he.2.1 (Bx.new BXz.out hb))
        · exact fun a w hb he hd => ob_plain rfl (gives_call2 _ _ _ _ rfl call_add (add_v hd.1 hd.2.1 (by omega)))
        · exact fun a w hb he hd => ob_plain rfl (gives_call2 _ _ _ _ rfl call_cmp (cmp_v hd.1.rw hd.2.1.rw (by omega)))
        · exact fun a w hb he hd => ob_plain rfl (gives_move _ rfl ⟨he.2.2.2.1, Below.refl _ _⟩)
        · exact fun a w hb he hd => ob_plain rfl (gives_eq_int (rcq (x + z) (y + z)) (rcq (x) (y)) .i64 _ _ _ _ rfl hd.1 hd.2.1 ⟨congrArg Value.bool (by rw [rcq_add]; simp), Below.refl _ _⟩)
        · exact fun a w hb he hd => ob_plain rfl (gives_move _ rfl ⟨hd.1, Below.refl _ _⟩)
        · exact fun a w hb he hd => ob_on 78 rfl (by kernel_rfl) hd.1 (load_bx rfl he.1 (Bx.new BXx.out hb))
        · exact fun a w hb he hd => ob_on 78 rfl (by kernel_rfl) hd.1 (load_bx rfl he.2.1 (Bx.new BXz.out hb))
        · exact fun a w hb he hd => ob_on 78 rfl (by kernel_rfl) hd.1 (gives_call2 _ _ _ _ rfl call_mul (mul_v hd.2.1 hd.2.2.1 (by omega)))
        · exact fun a w hb he hd => ob_on 78 rfl (by kernel_rfl) hd.1 (load_bx rfl he.2.2.1 (Bx.new BXy.out hb))
        · exact fun a w hb he hd => ob_on 78 rfl (by kernel_rfl) hd.1 (load_bx rfl he.2.1 (Bx.new BXz.out hb))
        · exact fun a w hb he hd => ob_on 78 rfl (by kernel_rfl) hd.1 (gives_call2 _ _ _ _ rfl call_mul (mul_v hd.2.1 hd.2.2.1 (by omega)))
        · exact fun a w hb he hd => ob_on 78 rfl (by kernel_rfl) hd.1 (gives_call2 _ _ _ _ rfl call_cmp (cmp_v hd.2.1.rw hd.2.2.1.rw (by omega)))
        · exact fun a w hb he hd => ob_on 78 rfl (by kernel_rfl) hd.1 (gives_move _ rfl ⟨he.2.2.2.1, Below.refl _ _⟩)
        · exact fun a w hb he hd => ob_on 78 rfl (by kernel_rfl) hd.1 (load_bx rfl he.2.1 (Bx.new BXz.out hb))
        · exact fun a w hb he hd => ob_on 78 rfl (by kernel_rfl) hd.1 (gives_call1 _ _ _ rfl call_sign (sign_v hd.2.1))
        · exact fun a w hb he hd => ob_on 78 rfl (by kernel_rfl) hd.1 (gives_mul_int (rcq (x) (y)) ((z).num.sign) _ _ _ _ rfl hd.2.1 hd.2.2.1 (by exact prod_rng (rcq_rg _ _) (sign_rng _)) ⟨rfl, Below.refl _ _⟩)
        · exact fun a w hb he hd => ob_on 78 rfl (by kernel_rfl) hd.1 (gives_eq_int (rcq (x * z) (y * z)) ((rcq (x) (y)) * ((z).num.sign)) .i64 _ _ _ _ rfl hd.2.1 hd.2.2.1 ⟨congrArg Value.bool (by rw [rcq_mul]; simp), Below.refl _ _⟩)
        · exact fun a w hb he hd => ob_plain rfl (gives_pick true _ _ _ rfl hd.1 ⟨hd.2.1, Below.refl _ _⟩)
        · exact fun a w hb he hd => ob_plain rfl (gives_move _ rfl ⟨hd.1, Below.refl _ _⟩)
        · exact fun a w hb he hd => ob_on 92 rfl (by kernel_rfl) hd.1 (gives_call0 _ _ rfl call_awake (awake_v _))
        · exact fun a w hb he hd => ob_plain rfl (gives_pick true _ _ _ rfl hd.1 ⟨hd.2.1, Below.refl _ _⟩)
        · exact fun a w hb he hd => ob_plain rfl (gives_assign _ rfl ⟨hd.1, Below.refl _ _⟩)
      intro vs w23 hb hR
      have e6 : vs 26 = .bool (true) := hR 26 (by decide)
      clear hR
      simp only [putsL, Nat.zero_add, Nat.reduceAdd, List.take_succ_cons, List.take_zero, Act.put, List.setIfInBounds_toArray, List.set_cons_zero, List.set_cons_succ]
      rw [e6]
      clear e6
      replace BXx := Lib.hid (Bx.new BXx.out hb)
      replace BXy := Lib.hid (Bx.new BXy.out hb)
      replace BXz := Lib.hid (Bx.new BXz.out hb)
      replace HW := Lib.hid (bthen HW.out hb HW.out.size); clear hb
      go_wp2_with fail
      go_ret
      exact ⟨rfl, HW.out⟩
    · have t2 := decide_eq_false h2
      refine wp_region_seq (kss := [[], [(0, 55)], [(1, 56)], [(2, 57)], [(2, 57)], [(2, 57), (3, 58), (4, 59)], [(2, 57), (5, 60)], [(2, 57), (6, 61)], [(7, 62)], [(8, 63)], [(8, 63)], [(8, 63), (9, 64), (10, 65)], [(8, 63), (11, 66)], [(8, 63), (12, 67)]]) [(10, .int .i64 (rcq (x) (y))), (8, .pointer (some ⟨g1, 0, none⟩)), (9, .pointer (some ⟨g2, 0, none⟩)), (7, .pointer (some ⟨g0, 0, none⟩))] [fun v _ => v = .int .i64 (rcq (x) (y)), fun v _ => v = .bool (true), fun v _ => v = .bool (true), Rw 8 (y), Rw 8 (z), fun v _ => v = .int .i64 (rcq (y) (z)), fun v _ => v = .bool (false), fun v _ => v = .bool (false), fun v _ => v = .bool (false), fun v _ => v = undef, fun v _ => v = undef, fun v _ => v = undef, fun v _ => v = undef, fun v _ => v = .bool (false)] (by kernel_rfl) ⟨rfl, rfl, rfl, rfl, trivial⟩ ?_ ?_ ?_
      · exact ⟨fun _ _ _ h _ => h, fun _ _ _ h _ => h, fun _ _ _ h _ => h, fun _ _ _ h hb => Rw.new h hb, fun _ _ _ h hb => Rw.new h hb, fun _ _ _ h _ => h, fun _ _ _ h _ => h, fun _ _ _ h _ => h, fun _ _ _ h _ => h, fun _ _ _ h _ => h, fun _ _ _ h _ => h, fun _ _ _ h _ => h, fun _ _ _ h _ => h, fun _ _ _ h _ => h, trivial⟩
      · refine ⟨?_, ?_, ?_, ?_, ?_, ?_, ?_, ?_, ?_, ?_, ?_, ?_, ?_, ?_, trivial⟩
        · exact fun a w hb he hd => ob_plain rfl (gives_move _ rfl ⟨he.1, Below.refl _ _⟩)
        · exact fun a w hb he hd => ob_plain rfl (gives_le_int (rcq (x) (y)) (0) .i64 _ _ _ _ rfl hd.1 rfl ⟨congrArg Value.bool (t1), Below.refl _ _⟩)
        · exact fun a w hb he hd => ob_plain rfl (gives_move _ rfl ⟨hd.1, Below.refl _ _⟩)
        · exact fun a w hb he hd => ob_on 57 rfl (by kernel_rfl) hd.1 (load_bx rfl he.2.1 (Bx.new BXy.out hb))
        · exact fun a w hb he hd => ob_on 57 rfl (by kernel_rfl) hd.1 (load_bx rfl he.2.2.1 (Bx.new BXz.out hb))
        · exact fun a w hb he hd => ob_on 57 rfl (by kernel_rfl) hd.1 (gives_call2 _ _ _ _ rfl call_cmp (cmp_v hd.2.1 hd.2.2.1 (by omega)))
        · exact fun a w hb he hd => ob_on 57 rfl (by kernel_rfl) hd.1 (gives_le_int (rcq (y) (z)) (0) .i64 _ _ _ _ rfl hd.2.1 rfl ⟨congrArg Value.bool (t2), Below.refl _ _⟩)
        · exact fun a w hb he hd => ob_plain rfl (gives_pick true _ _ _ rfl hd.1 ⟨hd.2.1, Below.refl _ _⟩)
        · exact fun a w hb he hd => ob_plain rfl (gives_move _ rfl ⟨hd.1, Below.refl _ _⟩)
        · exact fun a w hb he hd => ob_off 63 rfl (by kernel_rfl) hd.1 rfl
        · exact fun a w hb he hd => ob_off 63 rfl (by kernel_rfl) hd.1 rfl
        · exact fun a w hb he hd => ob_off 63 rfl (by kernel_rfl) hd.1 rfl
        · exact fun a w hb he hd => ob_off 63 rfl (by kernel_rfl) hd.1 rfl
        · exact fun a w hb he hd => ob_plain rfl (gives_pick false _ _ _ rfl hd.1 ⟨rfl, Below.refl _ _⟩)
      intro vs w22 hb hR
      have e68 : vs 13 = .bool (false) := hR 13 (by decide)
      clear hR
      simp only [putsL, Nat.zero_add, Nat.reduceAdd, List.take_succ_cons, List.take_zero, Act.put, List.setIfInBounds_toArray, List.set_cons_zero, List.set_cons_succ]
      rw [e68]
      clear e68
      replace BXx := Lib.hid (Bx.new BXx.out hb)
      replace BXy := Lib.hid (Bx.new BXy.out hb)
      replace BXz := Lib.hid (Bx.new BXz.out hb)
      replace HW := Lib.hid (bthen HW.out hb HW.out.size); clear hb
      go_wp2_with fail
      refine wp_region_each (kss := [[], [], [(0, 69), (1, 70)], [], [], [(3, 72), (4, 73)], [(2, 71), (5, 74)], [], [(6, 75), (7, 76)], [(8, 77)], [(9, 78)], [(9, 78)], [(9, 78), (10, 79), (11, 80)], [(9, 78)], [(9, 78)], [(9, 78), (13, 82), (14, 83)], [(9, 78), (12, 81), (15, 84)], [(9, 78)], [(9, 78)], [(9, 78), (18, 87)], [(9, 78), (17, 86), (19, 88)], [(9, 78), (16, 85), (20, 89)], [(9, 78), (21, 90)], [(22, 91)], [(23, 92)], [(23, 92), (24, 93)], [(25, 94)]]) [(7, .pointer (some ⟨g0, 0, none⟩)), (9, .pointer (some ⟨g2, 0, none⟩)), (8, .pointer (some ⟨g1, 0, none⟩)), (10, .int .i64 (rcq (x) (y)))] [Rw 8 (x), Rw 8 (z), Rv 17 (x + z), Rw 8 (y), Rw 8 (z), Rv 17 (y + z), fun v _ => v = .int .i64 (rcq (x + z) (y + z)), fun v _ => v = .int .i64 (rcq (x) (y)), fun v _ => v = .bool (true), fun v _ => v = .bool (true), Rw 8 (x), Rw 8 (z), Rv 16 (x * z), Rw 8 (y), Rw 8 (z), Rv 16 (y * z), fun v _ => v = .int .i64 (rcq (x * z) (y * z)), fun v _ => v = .int .i64 (rcq (x) (y)), Rw 8 (z), fun v _ => v = .int .i64 ((z).num.sign), fun v _ => v = .int .i64 ((rcq (x) (y)) * ((z).num.sign)), fun v _ => v = .bool (true), fun v _ => v = .bool (true), fun v _ => v = .bool (true), fun v _ => v = .bool (true), fun v _ => v = .bool (true), fun v _ => v = .bool (true)] (by kernel_rfl) (by kernel_rfl) ⟨rfl, rfl, rfl, rfl, trivial⟩ ?_ ?_ ?_
      · exact ⟨fun _ _ _ h hb => Rw.new h hb, fun _ _ _ h hb => Rw.new h hb, fun _ _ _ h hb => Rv.new h hb, fun _ _ _ h hb => Rw.new h hb, fun _ _ _ h hb => Rw.new h hb, fun _ _ _ h hb => Rv.new h hb, fun _ _ _ h _ => h, fun _ _ _ h _ => h, fun _ _ _ h _ => h, fun _ _ _ h _ => h, fun _ _ _ h hb => Rw.new h hb, fun _ _ _ h hb => Rw.new h hb, fun _ _ _ h hb => Rv.new h hb, fun _ _ _ h hb => Rw.new h hb, fun _ _ _ h hb => Rw.new h hb, fun _ _ _ h hb => Rv.new h hb, fun _ _ _ h _ => h, fun _ _ _ h _ => h, fun _ _ _ h hb => Rw.new h hb, fun _ _ _ h _ => h, fun _ _ _ h _ => h, fun _ _ _ h _ => h, fun _ _ _ h _ => h, fun _ _ _ h _ => h, fun _ _ _ h _ => h, fun _ _ _ h _ => h, fun _ _ _ h _ => h, trivial⟩
      · refine ⟨?_, ?_, ?_, ?_, ?_, ?_, ?_, ?_, ?_, ?_, ?_, ?_, ?_, ?_, ?_, ?_, ?_, ?_, ?_, ?_, ?_, ?_, ?_, ?_, ?_, ?_, ?_, trivial⟩
        · exact fun a w hb he hd => ob_plain rfl (load_bx rfl he.1 (Bx.new BXx.out hb))
        · exact fun a w hb he hd => ob_plain rfl (load_bx rfl he.2.1 (Bx.new BXz.out hb))
        · exact fun a w hb he hd => ob_plain rfl (gives_call2 _ _ _ _ rfl call_add (add_v hd.1 hd.2.1 (by omega)))
        · exact fun a w hb he hd => ob_plain rfl (load_bx rfl he.2.2.1 (Bx.new BXy.out hb))
        · exact fun a w hb he hd => ob_plain rfl (load_bx rfl he.2.1 (Bx.new BXz.out hb))
        · exact fun a w hb he hd => ob_plain rfl (gives_call2 _ _ _ _ rfl call_add (add_v hd.1 hd.2.1 (by omega)))
        · exact fun a w hb he hd => ob_plain rfl (gives_call2 _ _ _ _ rfl call_cmp (cmp_v hd.1.rw hd.2.1.rw (by omega)))
        · exact fun a w hb he hd => ob_plain rfl (gives_move _ rfl ⟨he.2.2.2.1, Below.refl _ _⟩)
        · exact fun a w hb he hd => ob_plain rfl (gives_eq_int (rcq (x + z) (y + z)) (rcq (x) (y)) .i64 _ _ _ _ rfl hd.1 hd.2.1 ⟨congrArg Value.bool (by rw [rcq_add]; simp), Below.refl _ _⟩)
        · exact fun a w hb he hd => ob_plain rfl (gives_move _ rfl ⟨hd.1, Below.refl _ _⟩)
        · exact fun a w hb he hd => ob_on 78 rfl (by kernel_rfl) hd.1 (load_bx rfl he.1 (Bx.new BXx.out hb))
        · exact fun a w hb he hd => ob_on 78 rfl (by kernel_rfl) hd.1 (load_bx rfl he.2.1 (Bx.new BXz.out hb))
        · exact fun a w hb he hd => ob_on 78 rfl (by kernel_rfl) hd.1 (gives_call2 _ _ _ _ rfl call_mul (mul_v hd.2.1 hd.2.2.1 (by omega)))
        · exact fun a w hb he hd => ob_on 78 rfl (by kernel_rfl) hd.1 (load_bx rfl he.2.2.1 (Bx.new BXy.out hb))
        · exact fun a w hb he hd => ob_on 78 rfl (by kernel_rfl) hd.1 (load_bx rfl he.2.1 (Bx.new BXz.out hb))
        · exact fun a w hb he hd => ob_on 78 rfl (by kernel_rfl) hd.1 (gives_call2 _ _ _ _ rfl call_mul (mul_v hd.2.1 hd.2.2.1 (by omega)))
        · exact fun a w hb he hd => ob_on 78 rfl (by kernel_rfl) hd.1 (gives_call2 _ _ _ _ rfl call_cmp (cmp_v hd.2.1.rw hd.2.2.1.rw (by omega)))
        · exact fun a w hb he hd => ob_on 78 rfl (by kernel_rfl) hd.1 (gives_move _ rfl ⟨he.2.2.2.1, Below.refl _ _⟩)
        · exact fun a w hb he hd => ob_on 78 rfl (by kernel_rfl) hd.1 (load_bx rfl he.2.1 (Bx.new BXz.out hb))
        · exact fun a w hb he hd => ob_on 78 rfl (by kernel_rfl) hd.1 (gives_call1 _ _ _ rfl call_sign (sign_v hd.2.1))
        · exact fun a w hb he hd => ob_on 78 rfl (by kernel_rfl) hd.1 (gives_mul_int (rcq (x) (y)) ((z).num.sign) _ _ _ _ rfl hd.2.1 hd.2.2.1 (by exact prod_rng (rcq_rg _ _) (sign_rng _)) ⟨rfl, Below.refl _ _⟩)
        · exact fun a w hb he hd => ob_on 78 rfl (by kernel_rfl) hd.1 (gives_eq_int (rcq (x * z) (y * z)) ((rcq (x) (y)) * ((z).num.sign)) .i64 _ _ _ _ rfl hd.2.1 hd.2.2.1 ⟨congrArg Value.bool (by rw [rcq_mul]; simp), Below.refl _ _⟩)
        · exact fun a w hb he hd => ob_plain rfl (gives_pick true _ _ _ rfl hd.1 ⟨hd.2.1, Below.refl _ _⟩)
        · exact fun a w hb he hd => ob_plain rfl (gives_move _ rfl ⟨hd.1, Below.refl _ _⟩)
        · exact fun a w hb he hd => ob_on 92 rfl (by kernel_rfl) hd.1 (gives_call0 _ _ rfl call_awake (awake_v _))
        · exact fun a w hb he hd => ob_plain rfl (gives_pick true _ _ _ rfl hd.1 ⟨hd.2.1, Below.refl _ _⟩)
        · exact fun a w hb he hd => ob_plain rfl (gives_assign _ rfl ⟨hd.1, Below.refl _ _⟩)
      intro vs w23 hb hR
      have e6 : vs 26 = .bool (true) := hR 26 (by decide)
      clear hR
      simp only [putsL, Nat.zero_add, Nat.reduceAdd, List.take_succ_cons, List.take_zero, Act.put, List.setIfInBounds_toArray, List.set_cons_zero, List.set_cons_succ]
      rw [e6]
      clear e6
      replace BXx := Lib.hid (Bx.new BXx.out hb)
      replace BXy := Lib.hid (Bx.new BXy.out hb)
      replace BXz := Lib.hid (Bx.new BXz.out hb)
      replace HW := Lib.hid (bthen HW.out hb HW.out.size); clear hb
      go_wp2_with fail
      go_ret
      exact ⟨rfl, HW.out⟩
  · have t1 := decide_eq_false h1
    refine wp_region_seq (kss := [[], [(0, 55)], [(1, 56)], [(2, 57)], [(2, 57)], [(2, 57), (3, 58), (4, 59)], [(2, 57), (5, 60)], [(2, 57), (6, 61)], [(7, 62)], [(8, 63)], [(8, 63)], [(8, 63), (9, 64), (10, 65)], [(8, 63), (11, 66)], [(8, 63), (12, 67)]]) [(10, .int .i64 (rcq (x) (y))), (8, .pointer (some ⟨g1, 0, none⟩)), (9, .pointer (some ⟨g2, 0, none⟩)), (7, .pointer (some ⟨g0, 0, none⟩))] [fun v _ => v = .int .i64 (rcq (x) (y)), fun v _ => v = .bool (false), fun v _ => v = .bool (false), fun v _ => v = undef, fun v _ => v = undef, fun v _ => v = undef, fun v _ => v = undef, fun v _ => v = .bool (false), fun v _ => v = .bool (false), fun v _ => v = undef, fun v _ => v = undef, fun v _ => v = undef, fun v _ => v = undef, fun v _ => v = .bool (false)] (by kernel_rfl) ⟨rfl, rfl, rfl, rfl, trivial⟩ ?_ ?_ ?_
    · exact ⟨fun _ _ _ h _ => h, fun _ _ _ h _ => h, fun _ _ _ h _ => h, fun _ _ _ h _ => h, fun _ _ _ h _ => h, fun _ _ _ h _ => h, fun _ _ _ h _ => h, fun _ _ _ h _ => h, fun _ _ _ h _ => h, fun _ _ _ h _ => h, fun _ _ _ h _ => h, fun _ _ _ h _ => h, fun _ _ _ h _ => h, fun _ _ _ h _ => h, trivial⟩
    · refine ⟨?_, ?_, ?_, ?_, ?_, ?_, ?_, ?_, ?_, ?_, ?_, ?_, ?_, ?_, trivial⟩
      · exact fun a w hb he hd => ob_plain rfl (gives_move _ rfl ⟨he.1, Below.refl _ _⟩)
      · exact fun a w hb he hd => ob_plain rfl (gives_le_int (rcq (x) (y)) (0) .i64 _ _ _ _ rfl hd.1 rfl ⟨congrArg Value.bool (t1), Below.refl _ _⟩)
      · exact fun a w hb he hd => ob_plain rfl (gives_move _ rfl ⟨hd.1, Below.refl _ _⟩)
      · exact fun a w hb he hd => ob_off 57 rfl (by kernel_rfl) hd.1 rfl
      · exact fun a w hb he hd => ob_off 57 rfl (by kernel_rfl) hd.1 rfl
      · exact fun a w hb he hd => ob_off 57 rfl (by kernel_rfl) hd.1 rfl
      · exact fun a w hb he hd => ob_off 57 rfl (by kernel_rfl) hd.1 rfl
      · exact fun a w hb he hd => ob_plain rfl (gives_pick false _ _ _ rfl hd.1 ⟨rfl, Below.refl _ _⟩)
      · exact fun a w hb he hd => ob_plain rfl (gives_move _ rfl ⟨hd.1, Below.refl _ _⟩)
      · exact fun a w hb he hd => ob_off 63 rfl (by kernel_rfl) hd.1 rfl
      · exact fun a w hb he hd => ob_off 63 rfl (by kernel_rfl) hd.1 rfl
      · exact fun a w hb he hd => ob_off 63 rfl (by kernel_rfl) hd.1 rfl
      · exact fun a w hb he hd => ob_off 63 rfl (by kernel_rfl) hd.1 rfl
      · exact fun a w hb he hd => ob_plain rfl (gives_pick false _ _ _ rfl hd.1 ⟨rfl, Below.refl _ _⟩)
    intro vs w22 hb hR
    have e68 : vs 13 = .bool (false) := hR 13 (by decide)
    clear hR
    simp only [putsL, Nat.zero_add, Nat.reduceAdd, List.take_succ_cons, List.take_zero, Act.put, List.setIfInBounds_toArray, List.set_cons_zero, List.set_cons_succ]
    rw [e68]
    clear e68
    replace BXx := Lib.hid (Bx.new BXx.out hb)
    replace BXy := Lib.hid (Bx.new BXy.out hb)
    replace BXz := Lib.hid (Bx.new BXz.out hb)
    replace HW := Lib.hid (bthen HW.out hb HW.out.size); clear hb
    go_wp2_with fail
    refine wp_region_each (kss := [[], [], [(0, 69), (1, 70)], [], [], [(3, 72), (4, 73)], [(2, 71), (5, 74)], [], [(6, 75), (7, 76)], [(8, 77)], [(9, 78)], [(9, 78)], [(9, 78), (10, 79), (11, 80)], [(9, 78)], [(9, 78)], [(9, 78), (13, 82), (14, 83)], [(9, 78), (12, 81), (15, 84)], [(9, 78)], [(9, 78)], [(9, 78), (18, 87)], [(9, 78), (17, 86), (19, 88)], [(9, 78), (16, 85), (20, 89)], [(9, 78), (21, 90)], [(22, 91)], [(23, 92)], [(23, 92), (24, 93)], [(25, 94)]]) [(7, .pointer (some ⟨g0, 0, none⟩)), (9, .pointer (some ⟨g2, 0, none⟩)), (8, .pointer (some ⟨g1, 0, none⟩)), (10, .int .i64 (rcq (x) (y)))] [Rw 8 (x), Rw 8 (z), Rv 17 (x + z), Rw 8 (y), Rw 8 (z), Rv 17 (y + z), fun v _ => v = .int .i64 (rcq (x + z) (y + z)), fun v _ => v = .int .i64 (rcq (x) (y)), fun v _ => v = .bool (true), fun v _ => v = .bool (true), Rw 8 (x), Rw 8 (z), Rv 16 (x * z), Rw 8 (y), Rw 8 (z), Rv 16 (y * z), fun v _ => v = .int .i64 (rcq (x * z) (y * z)), fun v _ => v = .int .i64 (rcq (x) (y)), Rw 8 (z), fun v _ => v = .int .i64 ((z).num.sign), fun v _ => v = .int .i64 ((rcq (x) (y)) * ((z).num.sign)), fun v _ => v = .bool (true), fun v _ => v = .bool (true), fun v _ => v = .bool (true), fun v _ => v = .bool (true), fun v _ => v = .bool (true), fun v _ => v = .bool (true)] (by kernel_rfl) (by kernel_rfl) ⟨rfl, rfl, rfl, rfl, trivial⟩ ?_ ?_ ?_
    · exact ⟨fun _ _ _ h hb => Rw.new h hb, fun _ _ _ h hb => Rw.new h hb, fun _ _ _ h hb => Rv.new h hb, fun _ _ _ h hb => Rw.new h hb, fun _ _ _ h hb => Rw.new h hb, fun _ _ _ h hb => Rv.new h hb, fun _ _ _ h _ => h, fun _ _ _ h _ => h, fun _ _ _ h _ => h, fun _ _ _ h _ => h, fun _ _ _ h hb => Rw.new h hb, fun _ _ _ h hb => Rw.new h hb, fun _ _ _ h hb => Rv.new h hb, fun _ _ _ h hb => Rw.new h hb, fun _ _ _ h hb => Rw.new h hb, fun _ _ _ h hb => Rv.new h hb, fun _ _ _ h _ => h, fun _ _ _ h _ => h, fun _ _ _ h hb => Rw.new h hb, fun _ _ _ h _ => h, fun _ _ _ h _ => h, fun _ _ _ h _ => h, fun _ _ _ h _ => h, fun _ _ _ h _ => h, fun _ _ _ h _ => h, fun _ _ _ h _ => h, fun _ _ _ h _ => h, trivial⟩
    · refine ⟨?_, ?_, ?_, ?_, ?_, ?_, ?_, ?_, ?_, ?_, ?_, ?_, ?_, ?_, ?_, ?_, ?_, ?_, ?_, ?_, ?_, ?_, ?_, ?_, ?_, ?_, ?_, trivial⟩
      · exact fun a w hb he hd => ob_plain rfl (load_bx rfl he.1 (Bx.new BXx.out hb))
      · exact fun a w hb he hd => ob_plain rfl (load_bx rfl he.2.1 (Bx.new BXz.out hb))
      · exact fun a w hb he hd => ob_plain rfl (gives_call2 _ _ _ _ rfl call_add (add_v hd.1 hd.2.1 (by omega)))
      · exact fun a w hb he hd => ob_plain rfl (load_bx rfl he.2.2.1 (Bx.new BXy.out hb))
      · exact fun a w hb he hd => ob_plain rfl (load_bx rfl he.2.1 (Bx.new BXz.out hb))
      · exact fun a w hb he hd => ob_plain rfl (gives_call2 _ _ _ _ rfl call_add (add_v hd.1 hd.2.1 (by omega)))
      · exact fun a w hb he hd => ob_plain rfl (gives_call2 _ _ _ _ rfl call_cmp (cmp_v hd.1.rw hd.2.1.rw (by omega)))
      · exact fun a w hb he hd => ob_plain rfl (gives_move _ rfl ⟨he.2.2.2.1, Below.refl _ _⟩)
      · exact fun a w hb he hd => ob_plain rfl (gives_eq_int (rcq (x + z) (y + z)) (rcq (x) (y)) .i64 _ _ _ _ rfl hd.1 hd.2.1 ⟨congrArg Value.bool (by rw [rcq_add]; simp), Below.refl _ _⟩)
      · exact fun a w hb he hd => ob_plain rfl (gives_move _ rfl ⟨hd.1, Below.refl _ _⟩)
      · exact fun a w hb he hd => ob_on 78 rfl (by kernel_rfl) hd.1 (load_bx rfl he.1 (Bx.new BXx.out hb))
      · exact fun a w hb he hd => ob_on 78 rfl (by kernel_rfl) hd.1 (load_bx rfl he.2.1 (Bx.new BXz.out hb))
      · exact fun a w hb he hd => ob_on 78 rfl (by kernel_rfl) hd.1 (gives_call2 _ _ _ _ rfl call_mul (mul_v hd.2.1 hd.2.2.1 (by omega)))
      · exact fun a w hb he hd => ob_on 78 rfl (by kernel_rfl) hd.1 (load_bx rfl he.2.2.1 (Bx.new BXy.out hb))
      · exact fun a w hb he hd => ob_on 78 rfl (by kernel_rfl) hd.1 (load_bx rfl he.2.1 (Bx.new BXz.out hb))
      · exact fun a w hb he hd => ob_on 78 rfl (by kernel_rfl) hd.1 (gives_call2 _ _ _ _ rfl call_mul (mul_v hd.2.1 hd.2.2.1 (by omega)))
      · exact fun a w hb he hd => ob_on 78 rfl (by kernel_rfl) hd.1 (gives_call2 _ _ _ _ rfl call_cmp (cmp_v hd.2.1.rw hd.2.2.1.rw (by omega)))
      · exact fun a w hb he hd => ob_on 78 rfl (by kernel_rfl) hd.1 (gives_move _ rfl ⟨he.2.2.2.1, Below.refl _ _⟩)
      · exact fun a w hb he hd => ob_on 78 rfl (by kernel_rfl) hd.1 (load_bx rfl he.2.1 (Bx.new BXz.out hb))
      · exact fun a w hb he hd => ob_on 78 rfl (by kernel_rfl) hd.1 (gives_call1 _ _ _ rfl call_sign (sign_v hd.2.1))
      · exact fun a w hb he hd => ob_on 78 rfl (by kernel_rfl) hd.1 (gives_mul_int (rcq (x) (y)) ((z).num.sign) _ _ _ _ rfl hd.2.1 hd.2.2.1 (by exact prod_rng (rcq_rg _ _) (sign_rng _)) ⟨rfl, Below.refl _ _⟩)
      · exact fun a w hb he hd => ob_on 78 rfl (by kernel_rfl) hd.1 (gives_eq_int (rcq (x * z) (y * z)) ((rcq (x) (y)) * ((z).num.sign)) .i64 _ _ _ _ rfl hd.2.1 hd.2.2.1 ⟨congrArg Value.bool (by rw [rcq_mul]; simp), Below.refl _ _⟩)
      · exact fun a w hb he hd => ob_plain rfl (gives_pick true _ _ _ rfl hd.1 ⟨hd.2.1, Below.refl _ _⟩)
      · exact fun a w hb he hd => ob_plain rfl (gives_move _ rfl ⟨hd.1, Below.refl _ _⟩)
      · exact fun a w hb he hd => ob_on 92 rfl (by kernel_rfl) hd.1 (gives_call0 _ _ rfl call_awake (awake_v _))
      · exact fun a w hb he hd => ob_plain rfl (gives_pick true _ _ _ rfl hd.1 ⟨hd.2.1, Below.refl _ _⟩)
      · exact fun a w hb he hd => ob_plain rfl (gives_assign _ rfl ⟨hd.1, Below.refl _ _⟩)
    intro vs w23 hb hR
    have e6 : vs 26 = .bool (true) := hR 26 (by decide)
    clear hR
    simp only [putsL, Nat.zero_add, Nat.reduceAdd, List.take_succ_cons, List.take_zero, Act.put, List.setIfInBounds_toArray, List.set_cons_zero, List.set_cons_succ]
    rw [e6]
    clear e6
    replace BXx := Lib.hid (Bx.new BXx.out hb)
    replace BXy := Lib.hid (Bx.new BXy.out hb)
    replace BXz := Lib.hid (Bx.new BXz.out hb)
    replace HW := Lib.hid (bthen HW.out hb HW.out.size); clear hb
    go_wp2_with fail
    go_ret
    exact ⟨rfl, HW.out⟩
set_option maxRecDepth 100000 in
set_option maxHeartbeats 8000000 in
theorem orders_far0 {w : World} {s0 : Bool} {A0 B0 : Option Addr} {n0 c0 m0 d0 : Nat} {ds0 fs0 : List Nat} {s1 : Bool} {A1 B1 : Option Addr} {n1 c1 m1 d1 : Nat} {ds1 fs1 : List Nat} {s2 : Bool} {A2 B2 : Option Addr} {n2 c2 m2 d2 : Nat} {ds2 fs2 : List Nat} (h0 : Bg w A0 n0 c0 B0 m0 d0 ds0 fs0) (h1 : Bg w A1 n1 c1 B1 m1 d1 ds1 fs1) (h2 : Bg w A2 n2 c2 B2 m2 d2 ds2 fs2) (hf : 8 < n0 ∨ 8 < m0) :
    Calls Try.prog 5 #[.agg #[.bool s0, .slice A0 n0 c0, .slice B0 m0 d0], .agg #[.bool s1, .slice A1 n1 c1, .slice B1 m1 d1], .agg #[.bool s2, .slice A2 n2 c2, .slice B2 m2 d2]] w fun e w' => e = .returned (.bool true) ∧ Below w.heap.size w w' := by
  have l1 := h0.1.1.le; have l2 := h0.2.1.le
  have HF := Lib.hid hf; have L1 := Lib.hid l1; have L2 := Lib.hid l2; clear hf l1 l2
  have H0 := Lib.hid h0; have H1 := Lib.hid h1; have H2 := Lib.hid h2; clear h0 h1 h2
  go_enter Try.func5, Try.ntmps5
  go_upto_region 1 with (fail)
  obtain ⟨X0, hX0⟩ : ∃ X : Array Value, X = #[.bool s0, .slice A0 n0 c0, .slice B0 m0 d0] := ⟨_, rfl⟩
  obtain ⟨X1, hX1⟩ : ∃ X : Array Value, X = #[.bool s1, .slice A1 n1 c1, .slice B1 m1 d1] := ⟨_, rfl⟩
  obtain ⟨X2, hX2⟩ : ∃ X : Array Value, X = #[.bool s2, .slice A2 n2 c2, .slice B2 m2 d2] := ⟨_, rfl⟩
  have hW : Below w.heap.size w (((w.alloc (.cells X0 44)).alloc (.cells X1 44)).alloc (.cells X2 44)) := (((al w _).alloc (by simp) _).alloc (by simp; omega) _)
  have t0 : Blk (((w.alloc (.cells X0 44)).alloc (.cells X1 44)).alloc (.cells X2 44)) (w.heap.size) 44 X0 := by
    have := Blk.new w 44 X0
    have := ((this.alloc (.cells X1 44)).alloc (.cells X2 44))
    simpa using this
  have t1 : Blk (((w.alloc (.cells X0 44)).alloc (.cells X1 44)).alloc (.cells X2 44)) (w.heap.size + 1) 44 X1 := by
    have := Blk.new (w.alloc (.cells X0 44)) 44 X1
    have := (this.alloc (.cells X2 44))
    simpa using this
  have t2 : Blk (((w.alloc (.cells X0 44)).alloc (.cells X1 44)).alloc (.cells X2 44)) (w.heap.size + 2) 44 X2 := by
    have := Blk.new ((w.alloc (.cells X0 44)).alloc (.cells X1 44)) 44 X2
    have := this
    simpa using this
  rw [hX0, hX1, hX2] at hW t0 t1 t2
  clear hX0 hX1 hX2
  generalize ((w.alloc (.cells #[.bool s0, .slice A0 n0 c0, .slice B0 m0 d0] 44)).alloc (.cells #[.bool s1, .slice A1 n1 c1, .slice B1 m1 d1] 44)).alloc (.cells #[.bool s2, .slice A2 n2 c2, .slice B2 m2 d2] 44) = w0 at hW t0 t1 t2 ⊢
  clear X0 X1 X2
  replace H0 := Lib.hid (H0.out.new hW); replace H1 := Lib.hid (H1.out.new hW); replace H2 := Lib.hid (H2.out.new hW)
  have HW := Lib.hid hW; clear hW
  have T0 : Hid (TB w0 (w.heap.size) 44 (.bool s0) (.slice A0 n0 c0) (.slice B0 m0 d0)) := Lib.hid t0
  have T1 : Hid (TB w0 (w.heap.size + 1) 44 (.bool s1) (.slice A1 n1 c1) (.slice B1 m1 d1)) := Lib.hid t1
  have T2 : Hid (TB w0 (w.heap.size + 2) 44 (.bool s2) (.slice A2 n2 c2) (.slice B2 m2 d2)) := Lib.hid t2
  clear t0 t1 t2
  have q00 := T0.out.c0; have q01 := T0.out.c1; have q02 := T0.out.c2; have q10 := T1.out.c0; have q11 := T1.out.c1; have q12 := T1.out.c2; have q20 := T2.out.c0; have q21 := T2.out.c1; have q22 := T2.out.c2
  go_wp2_with fail
  refine (gr_yes L1.out L2.out HF.out).mono ?_
  rintro e w1 ⟨rfl, hb⟩
  replace H0 := Lib.hid (H0.out.new hb); replace H1 := Lib.hid (H1.out.new hb); replace H2 := Lib.hid (H2.out.new hb)
  replace T0 := Lib.hid (T0.out.new hb); replace T1 := Lib.hid (T1.out.new hb); replace T2 := Lib.hid (T2.out.new hb)
  replace HW := Lib.hid (bthen HW.out hb HW.out.size)
  clear hb q00 q01 q02 q10 q11 q12 q20 q21 q22
  have q00 := T0.out.c0; have q01 := T0.out.c1; have q02 := T0.out.c2; have q10 := T1.out.c0; have q11 := T1.out.c1; have q12 := T1.out.c2; have q20 := T2.out.c0; have q21 := T2.out.c1; have q22 := T2.out.c2
  go_wp2_with fail
  refine (qawake_any _).mono ?_
  rintro e v1 ⟨rfl, hb⟩
  replace HW := Lib.hid (bthen HW.out hb HW.out.size); clear hb
  go_wp2_with fail
  go_ret
  exact ⟨rfl, HW.out⟩
set_option maxRecDepth 100000 in
set_option maxHeartbeats 8000000 in
theorem orders_far1 {w : World} {s0 : Bool} {A0 B0 : Option Addr} {n0 c0 m0 d0 : Nat} {ds0 fs0 : List Nat} {s1 : Bool} {A1 B1 : Option Addr} {n1 c1 m1 d1 : Nat} {ds1 fs1 : List Nat} {s2 : Bool} {A2 B2 : Option Addr} {n2 c2 m2 d2 : Nat} {ds2 fs2 : List Nat} (h0 : Bg w A0 n0 c0 B0 m0 d0 ds0 fs0) (h1 : Bg w A1 n1 c1 B1 m1 d1 ds1 fs1) (h2 : Bg w A2 n2 c2 B2 m2 d2 ds2 fs2) (hn0 : n0 ≤ 8) (hm0 : m0 ≤ 8) (hf : 8 < n1 ∨ 8 < m1) :
    Calls Try.prog 5 #[.agg #[.bool s0, .slice A0 n0 c0, .slice B0 m0 d0], .agg #[.bool s1, .slice A1 n1 c1, .slice B1 m1 d1], .agg #[.bool s2, .slice A2 n2 c2, .slice B2 m2 d2]] w fun e w' => e = .returned (.bool true) ∧ Below w.heap.size w w' := by
  have l1 := h1.1.1.le; have l2 := h1.2.1.le
  have HF := Lib.hid hf; have L1 := Lib.hid l1; have L2 := Lib.hid l2; clear hf l1 l2
  have H0 := Lib.hid h0; have H1 := Lib.hid h1; have H2 := Lib.hid h2; clear h0 h1 h2
  go_enter Try.func5, Try.ntmps5
  go_upto_region 1 with (fail)
  obtain ⟨X0, hX0⟩ : ∃ X : Array Value, X = #[.bool s0, .slice A0 n0 c0, .slice B0 m0 d0] := ⟨_, rfl⟩
  obtain ⟨X1, hX1⟩ : ∃ X : Array Value, X = #[.bool s1, .slice A1 n1 c1, .slice B1 m1 d1] := ⟨_, rfl⟩
  obtain ⟨X2, hX2⟩ : ∃ X : Array Value, X = #[.bool s2, .slice A2 n2 c2, .slice B2 m2 d2] := ⟨_, rfl⟩
  have hW : Below w.heap.size w (((w.alloc (.cells X0 44)).alloc (.cells X1 44)).alloc (.cells X2 44)) := (((al w _).alloc (by simp) _).alloc (by simp; omega) _)
  have t0 : Blk (((w.alloc (.cells X0 44)).alloc (.cells X1 44)).alloc (.cells X2 44)) (w.heap.size) 44 X0 := by
    have := Blk.new w 44 X0
    have := ((this.alloc (.cells X1 44)).alloc (.cells X2 44))
    simpa using this
  have t1 : Blk (((w.alloc (.cells X0 44)).alloc (.cells X1 44)).alloc (.cells X2 44)) (w.heap.size + 1) 44 X1 := by
    have := Blk.new (w.alloc (.cells X0 44)) 44 X1
    have := (this.alloc (.cells X2 44))
    simpa using this
  have t2 : Blk (((w.alloc (.cells X0 44)).alloc (.cells X1 44)).alloc (.cells X2 44)) (w.heap.size + 2) 44 X2 := by
    have := Blk.new ((w.alloc (.cells X0 44)).alloc (.cells X1 44)) 44 X2
    have := this
    simpa using this
  rw [hX0, hX1, hX2] at hW t0 t1 t2
  clear hX0 hX1 hX2
  generalize ((w.alloc (.cells #[.bool s0, .slice A0 n0 c0, .slice B0 m0 d0] 44)).alloc (.cells #[.bool s1, .slice A1 n1 c1, .slice B1 m1 d1] 44)).alloc (.cells #[.bool s2, .slice A2 n2 c2, .slice B2 m2 d2] 44) = w0 at hW t0 t1 t2 ⊢
  clear X0 X1 X2
  replace H0 := Lib.hid (H0.out.new hW); replace H1 := Lib.hid (H1.out.new hW); replace H2 := Lib.hid (H2.out.new hW)
  have HW := Lib.hid hW; clear hW
  have T0 : Hid (TB w0 (w.heap.size) 44 (.bool s0) (.slice A0 n0 c0) (.slice B0 m0 d0)) := Lib.hid t0
  have T1 : Hid (TB w0 (w.heap.size + 1) 44 (.bool s1) (.slice A1 n1 c1) (.slice B1 m1 d1)) := Lib.hid t1
  have T2 : Hid (TB w0 (w.heap.size + 2) 44 (.bool s2) (.slice A2 n2 c2) (.slice B2 m2 d2)) := Lib.hid t2
  clear t0 t1 t2
  have q00 := T0.out.c0; have q01 := T0.out.c1; have q02 := T0.out.c2; have q10 := T1.out.c0; have q11 := T1.out.c1; have q12 := T1.out.c2; have q20 := T2.out.c0; have q21 := T2.out.c1; have q22 := T2.out.c2
  go_wp2_with fail
  refine (gr_no hn0 hm0).mono ?_
  rintro e w1 ⟨rfl, hb⟩
  replace H0 := Lib.hid (H0.out.new hb); replace H1 := Lib.hid (H1.out.new hb); replace H2 := Lib.hid (H2.out.new hb)
  replace T0 := Lib.hid (T0.out.new hb); replace T1 := Lib.hid (T1.out.new hb); replace T2 := Lib.hid (T2.out.new hb)
  replace HW := Lib.hid (bthen HW.out hb HW.out.size)
  clear hb q00 q01 q02 q10 q11 q12 q20 q21 q22
  have q00 := T0.out.c0; have q01 := T0.out.c1; have q02 := T0.out.c2; have q10 := T1.out.c0; have q11 := T1.out.c1; have q12 := T1.out.c2; have q20 := T2.out.c0; have q21 := T2.out.c1; have q22 := T2.out.c2
  go_wp2_with fail
  refine (gr_yes L1.out L2.out HF.out).mono ?_
  rintro e w2 ⟨rfl, hb⟩
  replace H0 := Lib.hid (H0.out.new hb); replace H1 := Lib.hid (H1.out.new hb); replace H2 := Lib.hid (H2.out.new hb)
  replace T0 := Lib.hid (T0.out.new hb); replace T1 := Lib.hid (T1.out.new hb); replace T2 := Lib.hid (T2.out.new hb)
  replace HW := Lib.hid (bthen HW.out hb HW.out.size)
  clear hb q00 q01 q02 q10 q11 q12 q20 q21 q22
  have q00 := T0.out.c0; have q01 := T0.out.c1; have q02 := T0.out.c2; have q10 := T1.out.c0; have q11 := T1.out.c1; have q12 := T1.out.c2; have q20 := T2.out.c0; have q21 := T2.out.c1; have q22 := T2.out.c2
  go_wp2_with fail
  refine (qawake_any _).mono ?_
  rintro e v1 ⟨rfl, hb⟩
  replace HW := Lib.hid (bthen HW.out hb HW.out.size); clear hb
  go_wp2_with fail
  go_ret
  exact ⟨rfl, HW.out⟩
set_option maxRecDepth 100000 in
set_option maxHeartbeats 8000000 in
theorem orders_far2 {w : World} {s0 : Bool} {A0 B0 : Option Addr} {n0 c0 m0 d0 : Nat} {ds0 fs0 : List Nat} {s1 : Bool} {A1 B1 : Option Addr} {n1 c1 m1 d1 : Nat} {ds1 fs1 : List Nat} {s2 : Bool} {A2 B2 : Option Addr} {n2 c2 m2 d2 : Nat} {ds2 fs2 : List Nat} (h0 : Bg w A0 n0 c0 B0 m0 d0 ds0 fs0) (h1 : Bg w A1 n1 c1 B1 m1 d1 ds1 fs1) (h2 : Bg w A2 n2 c2 B2 m2 d2 ds2 fs2) (hn0 : n0 ≤ 8) (hm0 : m0 ≤ 8) (hn1 : n1 ≤ 8) (hm1 : m1 ≤ 8) (hf : 8 < n2 ∨ 8 < m2) :
    Calls Try.prog 5 #[.agg #[.bool s0, .slice A0 n0 c0, .slice B0 m0 d0], .agg #[.bool s1, .slice A1 n1 c1, .slice B1 m1 d1], .agg #[.bool s2, .slice A2 n2 c2, .slice B2 m2 d2]] w fun e w' => e = .returned (.bool true) ∧ Below w.heap.size w w' := by
  have l1 := h2.1.1.le; have l2 := h2.2.1.le
  have HF := Lib.hid hf; have L1 := Lib.hid l1; have L2 := Lib.hid l2; clear hf l1 l2
  have H0 := Lib.hid h0; have H1 := Lib.hid h1; have H2 := Lib.hid h2; clear h0 h1 h2
  go_enter Try.func5, Try.ntmps5
  go_upto_region 1 with (fail)
  obtain ⟨X0, hX0⟩ : ∃ X : Array Value, X = #[.bool s0, .slice A0 n0 c0, .slice B0 m0 d0] := ⟨_, rfl⟩
  obtain ⟨X1, hX1⟩ : ∃ X : Array Value, X = #[.bool s1, .slice A1 n1 c1, .slice B1 m1 d1] := ⟨_, rfl⟩
  obtain ⟨X2, hX2⟩ : ∃ X : Array Value, X = #[.bool s2, .slice A2 n2 c2, .slice B2 m2 d2] := ⟨_, rfl⟩
  have hW : Below w.heap.size w (((w.alloc (.cells X0 44)).alloc (.cells X1 44)).alloc (.cells X2 44)) := (((al w _).alloc (by simp) _).alloc (by simp; omega) _)
  have t0 : Blk (((w.alloc (.cells X0 44)).alloc (.cells X1 44)).alloc (.cells X2 44)) (w.heap.size) 44 X0 := by
    have := Blk.new w 44 X0
    have := ((this.alloc (.cells X1 44)).alloc (.cells X2 44))
    simpa using this
  have t1 : Blk (((w.alloc (.cells X0 44)).alloc (.cells X1 44)).alloc (.cells X2 44)) (w.heap.size + 1) 44 X1 := by
    have := Blk.new (w.alloc (.cells X0 44)) 44 X1
    have := (this.alloc (.cells X2 44))
    simpa using this
  have t2 : Blk (((w.alloc (.cells X0 44)).alloc (.cells X1 44)).alloc (.cells X2 44)) (w.heap.size + 2) 44 X2 := by
    have := Blk.new ((w.alloc (.cells X0 44)).alloc (.cells X1 44)) 44 X2
    have := this
    simpa using this
  rw [hX0, hX1, hX2] at hW t0 t1 t2
  clear hX0 hX1 hX2
  generalize ((w.alloc (.cells #[.bool s0, .slice A0 n0 c0, .slice B0 m0 d0] 44)).alloc (.cells #[.bool s1, .slice A1 n1 c1, .slice B1 m1 d1] 44)).alloc (.cells #[.bool s2, .slice A2 n2 c2, .slice B2 m2 d2] 44) = w0 at hW t0 t1 t2 ⊢
  clear X0 X1 X2
  replace H0 := Lib.hid (H0.out.new hW); replace H1 := Lib.hid (H1.out.new hW); replace H2 := Lib.hid (H2.out.new hW)
  have HW := Lib.hid hW; clear hW
  have T0 : Hid (TB w0 (w.heap.size) 44 (.bool s0) (.slice A0 n0 c0) (.slice B0 m0 d0)) := Lib.hid t0
  have T1 : Hid (TB w0 (w.heap.size + 1) 44 (.bool s1) (.slice A1 n1 c1) (.slice B1 m1 d1)) := Lib.hid t1
  have T2 : Hid (TB w0 (w.heap.size + 2) 44 (.bool s2) (.slice A2 n2 c2) (.slice B2 m2 d2)) := Lib.hid t2
  clear t0 t1 t2
  have q00 := T0.out.c0; have q01 := T0.out.c1; have q02 := T0.out.c2; have q10 := T1.out.c0; have q11 := T1.out.c1; have q12 := T1.out.c2; have q20 := T2.out.c0; have q21 := T2.out.c1; have q22 := T2.out.c2
  go_wp2_with fail
  refine (gr_no hn0 hm0).mono ?_
  rintro e w1 ⟨rfl, hb⟩
  replace H0 := Lib.hid (H0.out.new hb); replace H1 := Lib.hid (H1.out.new hb); replace H2 := Lib.hid (H2.out.new hb)
  replace T0 := Lib.hid (T0.out.new hb); replace T1 := Lib.hid (T1.out.new hb); replace T2 := Lib.hid (T2.out.new hb)
  replace HW := Lib.hid (bthen HW.out hb HW.out.size)
  clear hb q00 q01 q02 q10 q11 q12 q20 q21 q22
  have q00 := T0.out.c0; have q01 := T0.out.c1; have q02 := T0.out.c2; have q10 := T1.out.c0; have q11 := T1.out.c1; have q12 := T1.out.c2; have q20 := T2.out.c0; have q21 := T2.out.c1; have q22 := T2.out.c2
  go_wp2_with fail
  refine (gr_no hn1 hm1).mono ?_
  rintro e w2 ⟨rfl, hb⟩
  replace H0 := Lib.hid (H0.out.new hb); replace H1 := Lib.hid (H1.out.new hb); replace H2 := Lib.hid (H2.out.new hb)
  replace T0 := Lib.hid (T0.out.new hb); replace T1 := Lib.hid (T1.out.new hb); replace T2 := Lib.hid (T2.out.new hb)
  replace HW := Lib.hid (bthen HW.out hb HW.out.size)
  clear hb q00 q01 q02 q10 q11 q12 q20 q21 q22
  have q00 := T0.out.c0; have q01 := T0.out.c1; have q02 := T0.out.c2; have q10 := T1.out.c0; have q11 := T1.out.c1; have q12 := T1.out.c2; have q20 := T2.out.c0; have q21 := T2.out.c1; have q22 := T2.out.c2
  go_wp2_with fail
  refine (gr_yes L1.out L2.out HF.out).mono ?_
  rintro e w3 ⟨rfl, hb⟩
  replace H0 := Lib.hid (H0.out.new hb); replace H1 := Lib.hid (H1.out.new hb); replace H2 := Lib.hid (H2.out.new hb)
  replace T0 := Lib.hid (T0.out.new hb); replace T1 := Lib.hid (T1.out.new hb); replace T2 := Lib.hid (T2.out.new hb)
  replace HW := Lib.hid (bthen HW.out hb HW.out.size)
  clear hb q00 q01 q02 q10 q11 q12 q20 q21 q22
  have q00 := T0.out.c0; have q01 := T0.out.c1; have q02 := T0.out.c2; have q10 := T1.out.c0; have q11 := T1.out.c1; have q12 := T1.out.c2; have q20 := T2.out.c0; have q21 := T2.out.c1; have q22 := T2.out.c2
  go_wp2_with fail
  refine (qawake_any _).mono ?_
  rintro e v1 ⟨rfl, hb⟩
  replace HW := Lib.hid (bthen HW.out hb HW.out.size); clear hb
  go_wp2_with fail
  go_ret
  exact ⟨rfl, HW.out⟩
theorem ratOrders_walk {s0 : Bool} {A0 B0 : Option Addr} {n0 c0 m0 d0 : Nat} {ds0 fs0 : List Nat} {s1 : Bool} {A1 B1 : Option Addr} {n1 c1 m1 d1 : Nat} {ds1 fs1 : List Nat} {s2 : Bool} {A2 B2 : Option Addr} {n2 c2 m2 d2 : Nat} {ds2 fs2 : List Nat} (w : World) (h0 : Bg w A0 n0 c0 B0 m0 d0 ds0 fs0) (h1 : Bg w A1 n1 c1 B1 m1 d1 ds1 fs1) (h2 : Bg w A2 n2 c2 B2 m2 d2 ds2 fs2) :
    Calls Try.prog 5 #[.agg #[.bool s0, .slice A0 n0 c0, .slice B0 m0 d0], .agg #[.bool s1, .slice A1 n1 c1, .slice B1 m1 d1], .agg #[.bool s2, .slice A2 n2 c2, .slice B2 m2 d2]] w fun e w' => e = .returned (.bool true) ∧ Below w.heap.size w w' := by
  by_cases f0 : 8 < n0 ∨ 8 < m0
  · exact orders_far0 h0 h1 h2  f0
  by_cases f1 : 8 < n1 ∨ 8 < m1
  · exact orders_far1 h0 h1 h2 (by omega) (by omega) f1
  by_cases f2 : 8 < n2 ∨ 8 < m2
  · exact orders_far2 h0 h1 h2 (by omega) (by omega) (by omega) (by omega) f2
  exact orders_near h0 h1 h2 (by omega) (by omega) (by omega) (by omega) (by omega) (by omega)
end Go.Proofs.Ytifnbpkcnkfanaa
