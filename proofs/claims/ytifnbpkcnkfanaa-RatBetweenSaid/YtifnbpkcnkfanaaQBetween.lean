/-
  The walk of RatBetween.
-/
import Derived.Test.YtifnbpkcnkfanaaQW
namespace Go.Proofs.Ytifnbpkcnkfanaa
open Go.RowKit
set_option linter.unusedSimpArgs false

theorem mean_lo (x y : Rat) : rcq x ((x + y) / ((2 : Int) : Rat)) = rcq x y := by
  unfold rcq; congr 1 <;> grind
theorem mean_hi (x y : Rat) : rcq ((x + y) / ((2 : Int) : Rat)) y = rcq x y := by
  unfold rcq; congr 1 <;> grind

theorem sign_le {x : Rat} (h : ¬ 0 < x) : x.num.sign ≤ 0 := by
  have h1 : 0 ≤ -x := by grind
  have h2 := Rat.num_nonneg.2 h1
  rw [Rat.neg_num] at h2
  rcases Int.lt_trichotomy x.num 0 with h1 | h1 | h1
  · rw [Int.sign_eq_neg_one_of_neg h1]; omega
  · rw [h1]; simp
  · omega
theorem sign_gt {x : Rat} (h : 0 < x) : x.num.sign = 1 := by
  have h1 : 0 ≤ x := by grind
  have h2 := Rat.num_nonneg.2 h1
  have h3 : x.num ≠ 0 := fun h4 => by have := Rat.num_eq_zero.1 h4; grind
  exact Int.sign_eq_one_of_pos (by omega)
theorem lt_recip {a b : Rat} (ha : 0 < a) (hb : 0 < b) : 1 / a < 1 / b ↔ b < a := by
  rw [Rat.div_lt_iff ha]
  have : 1 / b * a = a / b := by grind
  rw [this, Rat.lt_div_iff hb]
  grind
theorem recip_cmp {x y : Rat} (hx : 0 < x) (hy : 0 < y) : rcq (((1 : Int) : Rat) / y) (((1 : Int) : Rat) / x) = rcq x y := by
  have e1 : ((1 : Int) : Rat) = 1 := rfl
  rw [e1]
  unfold rcq
  simp only [lt_recip hx hy, lt_recip hy hx]

set_option maxRecDepth 100000 in
set_option maxHeartbeats 8000000 in
theorem between_near {w : World} {s0 : Bool} {A0 B0 : Option Addr} {n0 c0 m0 d0 : Nat} {ds0 fs0 : List Nat} {s1 : Bool} {A1 B1 : Option Addr} {n1 c1 m1 d1 : Nat} {ds1 fs1 : List Nat} (h0 : Bg w A0 n0 c0 B0 m0 d0 ds0 fs0) (h1 : Bg w A1 n1 c1 B1 m1 d1 ds1 fs1) (hn0 : n0 ≤ 8) (hm0 : m0 ≤ 8) (hn1 : n1 ≤ 8) (hm1 : m1 ≤ 8) :
    Calls Try.prog 6 #[.agg #[.bool s0, .slice A0 n0 c0, .slice B0 m0 d0], .agg #[.bool s1, .slice A1 n1 c1, .slice B1 m1 d1]] w fun e w' => e = .returned (.bool true) ∧ Below w.heap.size w w' := by
  have H0 := Lib.hid h0; have H1 := Lib.hid h1; clear h0 h1
  go_enter Try.func6, Try.ntmps6
  go_upto_region 1 with (fail)
  obtain ⟨X0, hX0⟩ : ∃ X : Array Value, X = #[.bool s0, .slice A0 n0 c0, .slice B0 m0 d0] := ⟨_, rfl⟩
  obtain ⟨X1, hX1⟩ : ∃ X : Array Value, X = #[.bool s1, .slice A1 n1 c1, .slice B1 m1 d1] := ⟨_, rfl⟩
  have hW : Below w.heap.size w ((w.alloc (.cells X0 44)).alloc (.cells X1 44)) := ((al w _).alloc (by simp) _)
  have t0 : Blk ((w.alloc (.cells X0 44)).alloc (.cells X1 44)) (w.heap.size) 44 X0 := by
    have := Blk.new w 44 X0
    have := (this.alloc (.cells X1 44))
    simpa using this
  have t1 : Blk ((w.alloc (.cells X0 44)).alloc (.cells X1 44)) (w.heap.size + 1) 44 X1 := by
    have := Blk.new (w.alloc (.cells X0 44)) 44 X1
    have := this
    simpa using this
  rw [hX0, hX1] at hW t0 t1
  clear hX0 hX1
  generalize (w.alloc (.cells #[.bool s0, .slice A0 n0 c0, .slice B0 m0 d0] 44)).alloc (.cells #[.bool s1, .slice A1 n1 c1, .slice B1 m1 d1] 44) = w0 at hW t0 t1 ⊢
  clear X0 X1
  replace H0 := Lib.hid (H0.out.new hW); replace H1 := Lib.hid (H1.out.new hW)
  have HW := Lib.hid hW; clear hW
  have T0 : Hid (TB w0 (w.heap.size) 44 (.bool s0) (.slice A0 n0 c0) (.slice B0 m0 d0)) := Lib.hid t0
  have T1 : Hid (TB w0 (w.heap.size + 1) 44 (.bool s1) (.slice A1 n1 c1) (.slice B1 m1 d1)) := Lib.hid t1
  clear t0 t1
  have q00 := T0.out.c0; have q01 := T0.out.c1; have q02 := T0.out.c2; have q10 := T1.out.c0; have q11 := T1.out.c1; have q12 := T1.out.c2
  go_wp2_with fail
  refine (gr_no hn0 hm0).mono ?_
  rintro e w1 ⟨rfl, hb⟩
  replace H0 := Lib.hid (H0.out.new hb); replace H1 := Lib.hid (H1.out.new hb)
  replace T0 := Lib.hid (T0.out.new hb); replace T1 := Lib.hid (T1.out.new hb)
  replace HW := Lib.hid (bthen HW.out hb HW.out.size)
  clear hb q00 q01 q02 q10 q11 q12
  have q00 := T0.out.c0; have q01 := T0.out.c1; have q02 := T0.out.c2; have q10 := T1.out.c0; have q11 := T1.out.c1; have q12 := T1.out.c2
  go_wp2_with fail
  refine (gr_no hn1 hm1).mono ?_
  rintro e w2 ⟨rfl, hb⟩
  replace H0 := Lib.hid (H0.out.new hb); replace H1 := Lib.hid (H1.out.new hb)
  replace T0 := Lib.hid (T0.out.new hb); replace T1 := Lib.hid (T1.out.new hb)
  replace HW := Lib.hid (bthen HW.out hb HW.out.size)
  clear hb q00 q01 q02 q10 q11 q12
  have q00 := T0.out.c0; have q01 := T0.out.c1; have q02 := T0.out.c2; have q10 := T1.out.c0; have q11 := T1.out.c1; have q12 := T1.out.c2
  go_wp2_with fail
  clear q00 q01 q02 q10 q11 q12
  obtain ⟨x, e0⟩ : ∃ x, x = qv s0 (valB 4294967296 ds0) (valB 4294967296 fs0) := ⟨_, rfl⟩
  have C0 := Lib.hid (show ∀ W, Below w2.heap.size w2 W → ∀ v, v = .agg #[.bool s0, .slice A0 n0 c0, .slice B0 m0 d0] → Calls Try.prog 20 #[v] W (RV W (Rw 8 x)) from fun W hb v hv => by rw [e0]; exact rats_v (H0.out.new hb) hn0 hm0 v hv)
  clear H0 e0 hn0 hm0
  obtain ⟨y, e1⟩ : ∃ x, x = qv s1 (valB 4294967296 ds1) (valB 4294967296 fs1) := ⟨_, rfl⟩
  have C1 := Lib.hid (show ∀ W, Below w2.heap.size w2 W → ∀ v, v = .agg #[.bool s1, .slice A1 n1 c1, .slice B1 m1 d1] → Calls Try.prog 20 #[v] W (RV W (Rw 8 y)) from fun W hb v hv => by rw [e1]; exact rats_v (H1.out.new hb) hn1 hm1 v hv)
  clear H1 e1 hn1 hm1
  refine wp_region_join (kss := [[], [(0, 20)], [], [(2, 22)], [], []]) [(2, .pointer (some ⟨w.heap.size, 0, none⟩)), (3, .pointer (some ⟨w.heap.size + 1, 0, none⟩))] [fun v _ => v = .agg #[.bool s0, .slice A0 n0 c0, .slice B0 m0 d0], Rw 8 x, fun v _ => v = .agg #[.bool s1, .slice A1 n1 c1, .slice B1 m1 d1], Rw 8 y, Zb w2.heap.size, Zb w2.heap.size] 6 [] (by kernel_rfl) (by kernel_rfl) ⟨rfl, rfl, trivial⟩ [false, false, false, false, true, true] ?_ ?_ ?_ ?_
  · exact fun i hi => absurd hi (by simp)
  · exact ⟨fun _ _ _ h _ => h, fun _ _ _ h hb => Rw.new h hb, fun _ _ _ h _ => h, fun _ _ _ h hb => Rw.new h hb, fun _ _ _ h hb => Zb.new h hb, fun _ _ _ h hb => Zb.new h hb, trivial⟩
  · refine ⟨?_, ?_, ?_, ?_, ?_, ?_, trivial⟩
    · exact fun a w hb he _ => ob_plain rfl (load_big rfl he.1 (T0.out.new hb))
    · exact fun a w hb _ hd => ob_plain rfl (gives_call1 _ _ _ rfl call_rats (C0.out w hb _ hd.1))
    · exact fun a w hb he _ => ob_plain rfl (load_big rfl he.2.1 (T1.out.new hb))
    · exact fun a w hb _ hd => ob_plain rfl (gives_call1 _ _ _ rfl call_rats (C1.out w hb _ hd.1))
    · exact fun a w hb _ _ => ⟨by simp [Region.wanted], alloc_rat rfl hb⟩
    · exact fun a w hb _ _ => ⟨by simp [Region.wanted], alloc_rat rfl hb⟩
  intro vs w5 hb hR hN
  have r0 : Rw 8 x (vs 1) w5 := hR 1 (by omega)
  have r1 : Rw 8 y (vs 3) w5 := hR 3 (by omega)
  obtain ⟨g0, k0, z0⟩ : Zb w2.heap.size (vs 4) w5 := hR 4 (by omega)
  obtain ⟨g1, k1, z1⟩ : Zb w2.heap.size (vs 5) w5 := hR 5 (by omega)
  have ne01 : g0 ≠ g1 := fun h => hN 4 5 (by omega) (by omega) (by omega) rfl rfl (by rw [k0, k1, h])
  clear hN hR
  simp only [putsL, Nat.zero_add, Nat.reduceAdd, List.take_succ_cons, List.take_zero, Act.put, List.setIfInBounds_toArray, List.set_cons_zero, List.set_cons_succ]
  rw [k0, k1]
  generalize vs 1 = u0 at *
  generalize vs 3 = u1 at *
  show wpAny _ _ _ _ 2 _ _ _
  clear k0 k1
  refine wpAny_next (i := 6) (by kernel_rfl) rfl rfl (store_rat rfl rfl rfl rfl z0 r0 ?_)
  intro w6 x0 K0
  have hb0 : Below w2.heap.size w2 w6 := K0.below z0.1 hb
  replace r1 := K0.rw r1; replace z1 := K0.zx (Ne.symm ne01) z1
  refine wpAny_next (i := 7) (by kernel_rfl) rfl rfl (store_rat rfl rfl rfl rfl z1 r1 ?_)
  intro w7 x1 K1
  have hb1 : Below w2.heap.size w2 w7 := K1.below z1.1 hb0
  replace x0 := K1.bx ne01 x0
  refine wpAny_end (by kernel_rfl) (calm_normal ?_) _
  replace HW := Lib.hid (bthen HW.out hb1 HW.out.size)
  have BXx := Lib.hid x0; have BXy := Lib.hid x1
  clear x0 hb0 r0 z0 K0 C0 T0 x1 hb1 r1 z1 K1 C1 T1 hb ne01
  go_upto_region 4 with (fail)
  refine wp_region_joins (kss := [[], [], [(0, 25), (1, 26)], [], [(2, 27), (3, 28)], [(4, 29)], [(5, 24)], [(5, 24)], []]) [(5, .pointer (some ⟨g0, 0, none⟩)), (6, .pointer (some ⟨g1, 0, none⟩))] [Rw 8 (x), Rw 8 (y), Rv 17 (x + y), Rv 2 (((2 : Int) : Rat)), Dv 19 ((x + y) / (((2 : Int) : Rat))), Dv 19 ((x + y) / (((2 : Int) : Rat))), Rv 19 ((x + y) / (((2 : Int) : Rat))), fun v _ => v = .int .i64 (0), Zb w7.heap.size] 9 (by kernel_rfl) ⟨rfl, rfl, trivial⟩ [false, false, false, false, false, false, false, false, true] ?_ ?_ ?_
  · exact ⟨fun _ _ _ h hb => Rw.new h hb, fun _ _ _ h hb => Rw.new h hb, fun _ _ _ h hb => Rv.new h hb, fun _ _ _ h hb => Rv.new h hb, fun _ _ _ h hb => Dv.new h hb, fun _ _ _ h hb => Dv.new h hb, fun _ _ _ h hb => Rv.new h hb, fun _ _ _ h _ => h, fun _ _ _ h hb => Zb.new h hb, trivial⟩
  · refine ⟨?_, ?_, ?_, ?_, ?_, ?_, ?_, ?_, ?_, trivial⟩
    · exact fun a w hb he hd => ob_plain rfl (load_bx rfl he.1 (Bx.new BXx.out hb))
    · exact fun a w hb he hd => ob_plain rfl (load_bx rfl he.2.1 (Bx.new BXy.out hb))
    · exact fun a w hb he hd => ob_plain rfl (gives_call2 _ _ _ _ rfl call_add (add_v hd.1 hd.2.1 (by omega)))
    · exact fun a w hb he hd => ob_plain rfl (gives_call1 _ _ _ rfl call_int (int_v (2) (by omega) (by omega) _))
    · exact fun a w hb he hd => ob_plain rfl (gives_call2 _ _ _ _ rfl call_div (div_v hd.1.rw hd.2.1.rw (by omega) (by decide)))
    · exact fun a w hb he hd => ob_plain rfl (gives_move _ rfl ⟨hd.1, Below.refl _ _⟩)
    · exact fun a w hb he hd => ob_plain rfl (ext_q rfl hd.1)
    · exact fun a w hb he hd => ob_plain rfl (ext_e rfl hd.1)
    · exact fun a w hb he hd => ⟨by simp [Region.wanted], alloc_rat rfl hb⟩
  intro vs w20 hb hR
  have rq : Rv 19 ((x + y) / (((2 : Int) : Rat))) (vs 6) w20 := hR 6 (by decide)
  obtain ⟨gBXm, kq, zq⟩ : Zb w7.heap.size (vs 8) w20 := hR 8 (by decide)
  have eq : vs 7 = .int .i64 0 := hR 7 (by decide)
  clear hR
  simp only [putsL, Nat.zero_add, Nat.reduceAdd, List.take_succ_cons, List.take_zero, Act.put, List.setIfInBounds_toArray, List.set_cons_zero, List.set_cons_succ]
  rw [kq, eq]
  clear kq eq
  show wpOps _ _ _ [9, 10] _ _
  refine wpOps_next rfl rfl (store_rat rfl rfl rfl rfl zq rq.rw ?_)
  intro w21 xq Kq
  have hb2 := Kq.below zq.1 hb
  replace BXx := Lib.hid (Kq.bx (Nat.ne_of_lt (Nat.lt_of_lt_of_le (Bx.lt BXx.out) zq.1)) (Bx.new BXx.out hb))
  replace BXy := Lib.hid (Kq.bx (Nat.ne_of_lt (Nat.lt_of_lt_of_le (Bx.lt BXy.out) zq.1)) (Bx.new BXy.out hb))
  have BXm := Lib.hid xq
  replace HW := Lib.hid (bthen HW.out hb2 HW.out.size); clear hb hb2 zq xq Kq rq
  refine wpOps_next rfl rfl (wp_assign 8 (.tmp 31) rfl rfl (.int .i64 0) rfl ?_)
  simp only [Act.put, List.setIfInBounds_toArray, List.set_cons_zero, List.set_cons_succ]
  show Exit.then _ _ _ _ _
  go_upto_region 5 with (fail)
  refine wp_region_each (kss := [[], [(0, 32)], [(1, 33)], [(2, 34)], [(2, 34)], [(2, 34), (3, 35), (4, 36)], [(2, 34)], [(2, 34)], [(2, 34), (6, 38), (7, 39)], [(2, 34), (5, 37), (8, 40)], [(2, 34), (9, 41)], [(10, 42)], [(11, 43)], [(11, 43)], [(11, 43), (12, 44), (13, 45)], [(11, 43)], [(11, 43)], [(11, 43), (15, 47), (16, 48)], [(11, 43), (14, 46), (17, 49)], [(11, 43), (18, 50)]]) [(8, .int .i64 (0)), (5, .pointer (some ⟨g0, 0, none⟩)), (7, .pointer (some ⟨gBXm, 0, none⟩)), (6, .pointer (some ⟨g1, 0, none⟩))] [fun v _ => v = .int .i64 (0), fun v _ => v = .bool (false), fun v _ => v = .bool (false), Rw 8 (x), Rw 19 ((x + y) / (((2 : Int) : Rat))), fun v _ => v = .int .i64 (rcq (x) ((x + y) / (((2 : Int) : Rat)))), Rw 8 (x), Rw 8 (y), fun v _ => v = .int .i64 (rcq (x) (y)), fun v _ => v = .bool (false), fun v _ => v = .bool (false), fun v _ => v = .bool (false), Rw 19 ((x + y) / (((2 : Int) : Rat))), Rw 8 (y), fun v _ => v = .int .i64 (rcq ((x + y) / (((2 : Int) : Rat))) (y)), Rw 8 (x), Rw 8 (y), fun v _ => v = .int .i64 (rcq (x) (y)), fun v _ => v = .bool (false), fun v _ => v = .bool (false)] (by kernel_rfl) (by kernel_rfl) ⟨rfl, rfl, rfl, rfl, trivial⟩ ?_ ?_ ?_
  · exact ⟨fun _ _ _ h _ => h, fun _ _ _ h _ => h, fun _ _ _ h _ => h, fun _ _ _ h hb => Rw.new h hb, fun _ _ _ h hb => Rw.new h hb, fun _ _ _ h _ => h, fun _ _ _ h hb => Rw.new h hb, fun _ _ _ h hb => Rw.new h hb, fun _ _ _ h _ => h, fun _ _ _ h _ => h, fun _ _ _ h _ => h, fun _ _ _ h _ => h, fun _ _ _ h hb => Rw.new h hb, fun _ _ _ h hb => Rw.new h hb, fun _ _ _ h _ => h, fun _ _ _ h hb => Rw.new h hb, fun _ _ _ h hb => Rw.new h hb, fun _ _ _ h _ => h, fun _ _ _ h _ => h, fun _ _ _ h _ => h, trivial⟩
  · refine ⟨?_, ?_, ?_, ?_, ?_, ?_, ?_, ?_, ?_, ?_, ?_, ?_, ?_, ?_, ?_, ?_, ?_, ?_, ?_, ?_, trivial⟩
    · exact fun a w hb he hd => ob_plain rfl (gives_move _ rfl ⟨he.1, Below.refl _ _⟩)
    · exact fun a w hb he hd => ob_plain rfl (gives_ne_int (0) (0) .i64 _ _ _ _ rfl hd.1 rfl ⟨congrArg Value.bool (by decide), Below.refl _ _⟩)
    · exact fun a w hb he hd => ob_plain rfl (gives_move _ rfl ⟨hd.1, Below.refl _ _⟩)
    · exact fun a w hb he hd => ob_on 34 rfl (by kernel_rfl) hd.1 (load_bx rfl he.2.1 (Bx.new BXx.out hb))
    · exact fun a w hb he hd => ob_on 34 rfl (by kernel_rfl) hd.1 (load_bx rfl he.2.2.1 (Bx.new BXm.out hb))
    · exact fun a w hb he hd => ob_on 34 rfl (by kernel_rfl) hd.1 (gives_call2 _ _ _ _ rfl call_cmp (cmp_v hd.2.1 hd.2.2.1 (by omega)))
    · exact fun a w hb he hd => ob_on 34 rfl (by kernel_rfl) hd.1 (load_bx rfl he.2.1 (Bx.new BXx.out hb))
    · exact fun a w hb he hd => ob_on 34 rfl (by kernel_rfl) hd.1 (load_bx rfl he.2.2.2.1 (Bx.new BXy.out hb))
    · exact fun a w hb he hd => ob_on 34 rfl (by kernel_rfl) hd.1 (gives_call2 _ _ _ _ rfl call_cmp (cmp_v hd.2.1 hd.2.2.1 (by omega)))
    · exact fun a w hb he hd => ob_on 34 rfl (by kernel_rfl) hd.1 (gives_ne_int (rcq (x) ((x + y) / (((2 : Int) : Rat)))) (rcq (x) (y)) .i64 _ _ _ _ rfl hd.2.1 hd.2.2.1 ⟨congrArg Value.bool (by rw [mean_lo]; simp), Below.refl _ _⟩)
    · exact fun a w hb he hd => ob_plain rfl (gives_pick false _ _ _ rfl hd.1 ⟨hd.2.1, Below.refl _ _⟩)
    · exact fun a w hb he hd => ob_plain rfl (gives_move _ rfl ⟨hd.1, Below.refl _ _⟩)
    · exact fun a w hb he hd => ob_on 43 rfl (by kernel_rfl) hd.1 (load_bx rfl he.2.2.1 (Bx.new BXm.out hb))
    · exact fun a w hb he hd => ob_on 43 rfl (by kernel_rfl) hd.1 (load_bx rfl he.2.2.2.1 (Bx.new BXy.out hb))
    · exact fun a w hb he hd => ob_on 43 rfl (by kernel_rfl) hd.1 (gives_call2 _ _ _ _ rfl call_cmp (cmp_v hd.2.1 hd.2.2.1 (by omega)))
    · exact fun a w hb he hd => ob_on 43 rfl (by kernel_rfl) hd.1 (load_bx rfl he.2.1 (Bx.new BXx.out hb))
    · exact fun a w hb he hd => ob_on 43 rfl (by kernel_rfl) hd.1 (load_bx rfl he.2.2.2.1 (Bx.new BXy.out hb))
    · exact fun a w hb he hd => ob_on 43 rfl (by kernel_rfl) hd.1 (gives_call2 _ _ _ _ rfl call_cmp (cmp_v hd.2.1 hd.2.2.1 (by omega)))
    · exact fun a w hb he hd => ob_on 43 rfl (by kernel_rfl) hd.1 (gives_ne_int (rcq ((x + y) / (((2 : Int) : Rat))) (y)) (rcq (x) (y)) .i64 _ _ _ _ rfl hd.2.1 hd.2.2.1 ⟨congrArg Value.bool (by rw [mean_hi]; simp), Below.refl _ _⟩)
    · exact fun a w hb he hd => ob_plain rfl (gives_pick false _ _ _ rfl hd.1 ⟨hd.2.1, Below.refl _ _⟩)
  intro vs w22 hb hR
  have e51 : vs 19 = .bool (false) := hR 19 (by decide)
  clear hR
  simp only [putsL, Nat.zero_add, Nat.reduceAdd, List.take_succ_cons, List.take_zero, Act.put, List.setIfInBounds_toArray, List.set_cons_zero, List.set_cons_succ]
  rw [e51]
  clear e51
  replace BXx := Lib.hid (Bx.new BXx.out hb)
  replace BXy := Lib.hid (Bx.new BXy.out hb)
  replace BXm := Lib.hid (Bx.new BXm.out hb)
  replace HW := Lib.hid (bthen HW.out hb HW.out.size); clear hb
  go_upto_region 7 with (fail)
  by_cases hx : ¬ 0 < x
  · have tx : decide ((x).num.sign ≤ 0) = true := decide_eq_true (sign_le hx)
    refine wp_region_seq (kss := [[], [(0, 52)], [(1, 53)], [(2, 54)], [(3, 55)], [(3, 55), (4, 56)], [(3, 55), (5, 57)], [(3, 55), (6, 58)]]) [(5, .pointer (some ⟨g0, 0, none⟩)), (6, .pointer (some ⟨g1, 0, none⟩))] [Rw 8 (x), fun v _ => v = .int .i64 ((x).num.sign), fun v _ => v = .bool (true), fun v _ => v = .bool (true), fun v _ => v = undef, fun v _ => v = undef, fun v _ => v = undef, fun v _ => v = .bool (true)] (by kernel_rfl) ⟨rfl, rfl, trivial⟩ ?_ ?_ ?_
    · exact ⟨fun _ _ _ h hb => Rw.new h hb, fun _ _ _ h _ => h, fun _ _ _ h _ => h, fun _ _ _ h _ => h, fun _ _ _ h _ => h, fun _ _ _ h _ => h, fun _ _ _ h _ => h, fun _ _ _ h _ => h, trivial⟩
    · refine ⟨?_, ?_, ?_, ?_, ?_, ?_, ?_, ?_, trivial⟩
      · exact fun a w hb he hd => ob_plain rfl (load_bx rfl he.1 (Bx.new BXx.out hb))
      · exact fun a w hb he hd => ob_plain rfl (gives_call1 _ _ _ rfl call_sign (sign_v hd.1))
      · exact fun a w hb he hd => ob_plain rfl (gives_le_int ((x).num.sign) (0) .i64 _ _ _ _ rfl hd.1 rfl ⟨congrArg Value.bool (tx), Below.refl _ _⟩)
      · exact fun a w hb he hd => ob_plain rfl (gives_move _ rfl ⟨hd.1, Below.refl _ _⟩)
      · exact fun a w hb he hd => ob_off 55 rfl (by kernel_rfl) hd.1 rfl
      · exact fun a w hb he hd => ob_off 55 rfl (by kernel_rfl) hd.1 rfl
      · exact fun a w hb he hd => ob_off 55 rfl (by kernel_rfl) hd.1 rfl
      · exact fun a w hb he hd => ob_plain rfl (gives_pick true _ _ _ rfl hd.1 ⟨rfl, Below.refl _ _⟩)
    intro vs w23 hb hR
    have e59 : vs 7 = .bool (true) := hR 7 (by decide)
    clear hR
    simp only [putsL, Nat.zero_add, Nat.reduceAdd, List.take_succ_cons, List.take_zero, Act.put, List.setIfInBounds_toArray, List.set_cons_zero, List.set_cons_succ]
    rw [e59]
    clear e59
    replace BXx := Lib.hid (Bx.new BXx.out hb)
    replace BXy := Lib.hid (Bx.new BXy.out hb)
    replace BXm := Lib.hid (Bx.new BXm.out hb)
    replace HW := Lib.hid (bthen HW.out hb HW.out.size); clear hb
    go_wp2_with fail
    refine (awake_v _).mono ?_
    rintro e w24 ⟨v, rfl, rfl, hb⟩
    replace HW := Lib.hid (bthen HW.out hb HW.out.size); clear hb
    go_wp2_with fail
    go_ret
    exact ⟨rfl, HW.out⟩
  · have hx : 0 < x := by simpa using hx
    have tx : decide ((x).num.sign ≤ 0) = false := decide_eq_false (by rw [sign_gt hx]; decide)
    by_cases hy : ¬ 0 < y
    · have ty : decide ((y).num.sign ≤ 0) = true := decide_eq_true (sign_le hy)
      refine wp_region_seq (kss := [[], [(0, 52)], [(1, 53)], [(2, 54)], [(3, 55)], [(3, 55), (4, 56)], [(3, 55), (5, 57)], [(3, 55), (6, 58)]]) [(5, .pointer (some ⟨g0, 0, none⟩)), (6, .pointer (some ⟨g1, 0, none⟩))] [Rw 8 (x), fun v _ => v = .int .i64 ((x).num.sign), fun v _ => v = .bool (false), fun v _ => v = .bool (false), Rw 8 (y), fun v _ => v = .int .i64 ((y).num.sign), fun v _ => v = .bool (true), fun v _ => v = .bool (true)] (by kernel_rfl) ⟨rfl, rfl, trivial⟩ ?_ ?_ ?_
      · exact ⟨fun _ _ _ h hb => Rw.new h hb, fun _ _ _ h _ => h, fun _ _ _ h _ => h, fun _ _ _ h _ => h, fun _ _ _ h hb => Rw.new h hb, fun _ _ _ h _ => h, fun _ _ _ h _ => h, fun _ _ _ h _ => h, trivial⟩
      · refine ⟨?_, ?_, ?_, ?_, ?_, ?_, ?_, ?_, trivial⟩
        · exact fun a w hb he hd => ob_plain rfl (load_bx rfl he.1 (Bx.new BXx.out hb))
        · exact fun a w hb he hd => ob_plain rfl (gives_call1 _ _ _ rfl call_sign (sign_v hd.1))
        · exact fun a w hb he hd => ob_plain rfl (gives_le_int ((x).num.sign) (0) .i64 _ _ _ _ rfl hd.1 rfl ⟨congrArg Value.bool (tx), Below.refl _ _⟩)
        · exact fun a w hb he hd => ob_plain rfl (gives_move _ rfl ⟨hd.1, Below.refl _ _⟩)
        · exact fun a w hb he hd => ob_on 55 rfl (by kernel_rfl) hd.1 (load_bx rfl he.2.1 (Bx.new BXy.out hb))
        · exact fun a w hb he hd => ob_on 55 rfl (by kernel_rfl) hd.1 (gives_call1 _ _ _ rfl call_sign (sign_v hd.2.1))
        · exact fun a w hb he hd => ob_on 55 rfl (by kernel_rfl) hd.1 (gives_le_int ((y).num.sign) (0) .i64 _ _ _ _ rfl hd.2.1 rfl ⟨congrArg Value.bool (ty), Below.refl _ _⟩)
        · exact fun a w hb he hd => ob_plain rfl (gives_pick false _ _ _ rfl hd.1 ⟨hd.2.1, Below.refl _ _⟩)
      intro vs w23 hb hR
      have e59 : vs 7 = .bool (true) := hR 7 (by decide)
      clear hR
      simp only [putsL, Nat.zero_add, Nat.reduceAdd, List.take_succ_cons, List.take_zero, Act.put, List.setIfInBounds_toArray, List.set_cons_zero, List.set_cons_succ]
      rw [e59]
      clear e59
      replace BXx := Lib.hid (Bx.new BXx.out hb)
      replace BXy := Lib.hid (Bx.new BXy.out hb)
      replace BXm := Lib.hid (Bx.new BXm.out hb)
      replace HW := Lib.hid (bthen HW.out hb HW.out.size); clear hb
      go_wp2_with fail
      refine (awake_v _).mono ?_
      rintro e w24 ⟨v, rfl, rfl, hb⟩
      replace HW := Lib.hid (bthen HW.out hb HW.out.size); clear hb
      go_wp2_with fail
      go_ret
      exact ⟨rfl, HW.out⟩
    · have hy : 0 < y := by simpa using hy
      have ty : decide ((y).num.sign ≤ 0) = false := decide_eq_false (by rw [sign_gt hy]; decide)
      have nx : x ≠ 0 := by grind
      have ny : y ≠ 0 := by grind
      refine wp_region_seq (kss := [[], [(0, 52)], [(1, 53)], [(2, 54)], [(3, 55)], [(3, 55), (4, 56)], [(3, 55), (5, 57)], [(3, 55), (6, 58)]]) [(5, .pointer (some ⟨g0, 0, none⟩)), (6, .pointer (some ⟨g1, 0, none⟩))] [Rw 8 (x), fun v _ => v = .int .i64 ((x).num.sign), fun v _ => v = .bool (false), fun v _ => v = .bool (false), Rw 8 (y), fun v _ => v = .int .i64 ((y).num.sign), fun v _ => v = .bool (false), fun v _ => v = .bool (false)] (by kernel_rfl) ⟨rfl, rfl, trivial⟩ ?_ ?_ ?_
      · exact ⟨fun _ _ _ h hb => Rw.new h hb, fun _ _ _ h _ => h, fun _ _ _ h _ => h, fun _ _ _ h _ => h, fun _ _ _ h hb => Rw.new h hb, fun _ _ _ h _ => h, fun _ _ _ h _ => h, fun _ _ _ h _ => h, trivial⟩
      · refine ⟨?_, ?_, ?_, ?_, ?_, ?_, ?_, ?_, trivial⟩
        · exact fun a w hb he hd => ob_plain rfl (load_bx rfl he.1 (Bx.new BXx.out hb))
        · exact fun a w hb he hd => ob_plain rfl (gives_call1 _ _ _ rfl call_sign (sign_v hd.1))
        · exact fun a w hb he hd => ob_plain rfl (gives_le_int ((x).num.sign) (0) .i64 _ _ _ _ rfl hd.1 rfl ⟨congrArg Value.bool (tx), Below.refl _ _⟩)
        · exact fun a w hb he hd => ob_plain rfl (gives_move _ rfl ⟨hd.1, Below.refl _ _⟩)
        · exact fun a w hb he hd => ob_on 55 rfl (by kernel_rfl) hd.1 (load_bx rfl he.2.1 (Bx.new BXy.out hb))
        · exact fun a w hb he hd => ob_on 55 rfl (by kernel_rfl) hd.1 (gives_call1 _ _ _ rfl call_sign (sign_v hd.2.1))
        · exact fun a w hb he hd => ob_on 55 rfl (by kernel_rfl) hd.1 (gives_le_int ((y).num.sign) (0) .i64 _ _ _ _ rfl hd.2.1 rfl ⟨congrArg Value.bool (ty), Below.refl _ _⟩)
        · exact fun a w hb he hd => ob_plain rfl (gives_pick false _ _ _ rfl hd.1 ⟨hd.2.1, Below.refl _ _⟩)
      intro vs w23 hb hR
      have e59 : vs 7 = .bool (false) := hR 7 (by decide)
      clear hR
      simp only [putsL, Nat.zero_add, Nat.reduceAdd, List.take_succ_cons, List.take_zero, Act.put, List.setIfInBounds_toArray, List.set_cons_zero, List.set_cons_succ]
      rw [e59]
      clear e59
      replace BXx := Lib.hid (Bx.new BXx.out hb)
      replace BXy := Lib.hid (Bx.new BXy.out hb)
      replace BXm := Lib.hid (Bx.new BXm.out hb)
      replace HW := Lib.hid (bthen HW.out hb HW.out.size); clear hb
      go_wp2_with fail
      refine wp_region_join (kss := [[], [], [(0, 62), (1, 63)], [(2, 64)], [(3, 61)], [(3, 61)], []]) [(5, .pointer (some ⟨g0, 0, none⟩))] [Rv 2 (((1 : Int) : Rat)), Rw 8 (x), Dv 10 ((((1 : Int) : Rat)) / x), Dv 10 ((((1 : Int) : Rat)) / x), Rv 10 ((((1 : Int) : Rat)) / x), fun v _ => v = .int .i64 (0), Zb w23.heap.size] 7 [5] (by kernel_rfl) (by kernel_rfl) ⟨rfl, trivial⟩ [false, false, false, false, false, false, true] ?_ ?_ ?_ ?_
      · intro i hi
        obtain rfl := List.mem_singleton.1 hi
        exact ⟨rfl, fun o ks ho hk => by cases ho; cases hk; exact fun a w _ _ hd => late_e rfl rfl hd.1⟩
      · exact ⟨fun _ _ _ h hb => Rv.new h hb, fun _ _ _ h hb => Rw.new h hb, fun _ _ _ h hb => Dv.new h hb, fun _ _ _ h hb => Dv.new h hb, fun _ _ _ h hb => Rv.new h hb, fun _ _ _ h _ => h, fun _ _ _ h hb => Zb.new h hb, trivial⟩
      · refine ⟨?_, ?_, ?_, ?_, ?_, ?_, ?_, trivial⟩
        · exact fun a w hb he hd => ob_plain rfl (gives_call1 _ _ _ rfl call_int (int_v (1) (by omega) (by omega) _))
        · exact fun a w hb he hd => ob_plain rfl (load_bx rfl he.1 (Bx.new BXx.out hb))
        · exact fun a w hb he hd => ob_plain rfl (gives_call2 _ _ _ _ rfl call_div (div_v hd.1.rw hd.2.1 (by omega) (nx)))
        · exact fun a w hb he hd => ob_plain rfl (gives_move _ rfl ⟨hd.1, Below.refl _ _⟩)
        · exact fun a w hb he hd => ob_plain rfl (ext_q rfl hd.1)
        · exact fun a w hb he hd => ob_plain rfl (ext_e rfl hd.1)
        · exact fun a w hb he hd => ⟨by simp [Region.wanted], alloc_rat rfl hb⟩
      intro vs w24 hb hR _
      have rq : Rv 10 ((((1 : Int) : Rat)) / x) (vs 4) w24 := hR 4 (by decide)
      obtain ⟨gBXc, kq, zq⟩ : Zb w23.heap.size (vs 6) w24 := hR 6 (by decide)
      have eq : vs 5 = .int .i64 0 := hR 5 (by decide)
      clear hR
      simp only [putsL, Nat.zero_add, Nat.reduceAdd, List.take_succ_cons, List.take_zero, Act.put, List.setIfInBounds_toArray, List.set_cons_zero, List.set_cons_succ]
      rw [kq, eq]
      clear kq eq
      show wpAny _ _ _ _ 2 _ _ _
      refine wpAny_next (i := 7) (by kernel_rfl) rfl rfl (store_rat rfl rfl rfl rfl zq rq.rw ?_)
      intro w25 xq Kq
      have hb2 := Kq.below zq.1 hb
      replace BXx := Lib.hid (Kq.bx (Nat.ne_of_lt (Nat.lt_of_lt_of_le (Bx.lt BXx.out) zq.1)) (Bx.new BXx.out hb))
      replace BXy := Lib.hid (Kq.bx (Nat.ne_of_lt (Nat.lt_of_lt_of_le (Bx.lt BXy.out) zq.1)) (Bx.new BXy.out hb))
      replace BXm := Lib.hid (Kq.bx (Nat.ne_of_lt (Nat.lt_of_lt_of_le (Bx.lt BXm.out) zq.1)) (Bx.new BXm.out hb))
      have BXc := Lib.hid xq
      replace HW := Lib.hid (bthen HW.out hb2 HW.out.size); clear hb hb2 zq xq Kq rq
      refine wpAny_next (i := 8) (by kernel_rfl) rfl rfl (wp_assign 10 (.tmp 66) rfl rfl (.int .i64 0) rfl ?_)
      simp only [Act.put, List.setIfInBounds_toArray, List.set_cons_zero, List.set_cons_succ]
      refine wpAny_end (by kernel_rfl) (calm_normal ?_) _
      go_wp2_with fail
      refine wp_region_join (kss := [[], [], [(0, 68), (1, 69)], [(2, 70)], [(3, 67)], [(3, 67)], []]) [(6, .pointer (some ⟨g1, 0, none⟩))] [Rv 2 (((1 : Int) : Rat)), Rw 8 (y), Dv 10 ((((1 : Int) : Rat)) / y), Dv 10 ((((1 : Int) : Rat)) / y), Rv 10 ((((1 : Int) : Rat)) / y), fun v _ => v = .int .i64 (0), Zb w25.heap.size] 7 [5] (by kernel_rfl) (by kernel_rfl) ⟨rfl, trivial⟩ [false, false, false, false, false, false, true] ?_ ?_ ?_ ?_
      · intro i hi
        obtain rfl := List.mem_singleton.1 hi
        exact ⟨rfl, fun o ks ho hk => by cases ho; cases hk; exact fun a w _ _ hd => late_e rfl rfl hd.1⟩
      · exact ⟨fun _ _ _ h hb => Rv.new h hb, fun _ _ _ h hb => Rw.new h hb, fun _ _ _ h hb => Dv.new h hb, fun _ _ _ h hb => Dv.new h hb, fun _ _ _ h hb => Rv.new h hb, fun _ _ _ h _ => h, fun _ _ _ h hb => Zb.new h hb, trivial⟩
      · refine ⟨?_, ?_, ?_, ?_, ?_, ?_, ?_, trivial⟩
        · exact fun a w hb he hd => ob_plain rfl (gives_call1 _ _ _ rfl call_int (int_v (1) (by omega) (by omega) _))
        · exact fun a w hb he hd => ob_plain rfl (load_bx rfl he.1 (Bx.new BXy.out hb))
        · exact fun a w hb he hd => ob_plain rfl (gives_call2 _ _ _ _ rfl call_div (div_v hd.1.rw hd.2.1 (by omega) (ny)))
        · exact fun a w hb he hd => ob_plain rfl (gives_move _ rfl ⟨hd.1, Below.refl _ _⟩)
        · exact fun a w hb he hd => ob_plain rfl (ext_q rfl hd.1)
        · exact fun a w hb he hd => ob_plain rfl (ext_e rfl hd.1)
        · exact fun a w hb he hd => ⟨by simp [Region.wanted], alloc_rat rfl hb⟩
      intro vs w26 hb hR _
      have rq : Rv 10 ((((1 : Int) : Rat)) / y) (vs 4) w26 := hR 4 (by decide)
      obtain ⟨gBXd, kq, zq⟩ : Zb w25.heap.size (vs 6) w26 := hR 6 (by decide)
      have eq : vs 5 = .int .i64 0 := hR 5 (by decide)
      clear hR
      simp only [putsL, Nat.zero_add, Nat.reduceAdd, List.take_succ_cons, List.take_zero, Act.put, List.setIfInBounds_toArray, List.set_cons_zero, List.set_cons_succ]
      rw [kq, eq]
      clear kq eq
      show wpAny _ _ _ _ 2 _ _ _
      refine wpAny_next (i := 7) (by kernel_rfl) rfl rfl (store_rat rfl rfl rfl rfl zq rq.rw ?_)
      intro w27 xq Kq
      have hb2 := Kq.below zq.1 hb
      replace BXx := Lib.hid (Kq.bx (Nat.ne_of_lt (Nat.lt_of_lt_of_le (Bx.lt BXx.out) zq.1)) (Bx.new BXx.out hb))
      replace BXy := Lib.hid (Kq.bx (Nat.ne_of_lt (Nat.lt_of_lt_of_le (Bx.lt BXy.out) zq.1)) (Bx.new BXy.out hb))
      replace BXm := Lib.hid (Kq.bx (Nat.ne_of_lt (Nat.lt_of_lt_of_le (Bx.lt BXm.out) zq.1)) (Bx.new BXm.out hb))
      replace BXc := Lib.hid (Kq.bx (Nat.ne_of_lt (Nat.lt_of_lt_of_le (Bx.lt BXc.out) zq.1)) (Bx.new BXc.out hb))
      have BXd := Lib.hid xq
      replace HW := Lib.hid (bthen HW.out hb2 HW.out.size); clear hb hb2 zq xq Kq rq
      refine wpAny_next (i := 8) (by kernel_rfl) rfl rfl (wp_assign 12 (.tmp 72) rfl rfl (.int .i64 0) rfl ?_)
      simp only [Act.put, List.setIfInBounds_toArray, List.set_cons_zero, List.set_cons_succ]
      refine wpAny_end (by kernel_rfl) (calm_normal ?_) _
      go_wp2_with fail
      have hr := recip_cmp hx hy
      refine wp_region_each (kss := [[], [(0, 73)], [(1, 74)], [(2, 75)], [(2, 75), (3, 76)], [(2, 75), (4, 77)], [(5, 78)], [(6, 79)], [(6, 79)], [(6, 79), (7, 80), (8, 81)], [(6, 79)], [(6, 79)], [(6, 79), (10, 83), (11, 84)], [(6, 79), (9, 82), (12, 85)], [(6, 79), (13, 86)], [(14, 87)], [(15, 88)], [(15, 88), (16, 89)], [(17, 90)]]) [(10, .int .i64 (0)), (12, .int .i64 (0)), (11, .pointer (some ⟨gBXd, 0, none⟩)), (9, .pointer (some ⟨gBXc, 0, none⟩)), (5, .pointer (some ⟨g0, 0, none⟩)), (6, .pointer (some ⟨g1, 0, none⟩))] [fun v _ => v = .int .i64 (0), fun v _ => v = .bool (true), fun v _ => v = .bool (true), fun v _ => v = .int .i64 (0), fun v _ => v = .bool (true), fun v _ => v = .bool (true), fun v _ => v = .bool (true), Rw 10 ((((1 : Int) : Rat)) / y), Rw 10 ((((1 : Int) : Rat)) / x), fun v _ => v = .int .i64 (rcq ((((1 : Int) : Rat)) / y) ((((1 : Int) : Rat)) / x)), Rw 8 (x), Rw 8 (y), fun v _ => v = .int .i64 (rcq (x) (y)), fun v _ => v = .bool (true), fun v _ => v = .bool (true), fun v _ => v = .bool (true), fun v _ => v = .bool (true), fun v _ => v = .bool (true), fun v _ => v = .bool (true)] (by kernel_rfl) (by kernel_rfl) ⟨rfl, rfl, rfl, rfl, rfl, rfl, trivial⟩ ?_ ?_ ?_
      · exact ⟨fun _ _ _ h _ => h, fun _ _ _ h _ => h, fun _ _ _ h _ => h, fun _ _ _ h _ => h, fun _ _ _ h _ => h, fun _ _ _ h _ => h, fun _ _ _ h _ => h, fun _ _ _ h hb => Rw.new h hb, fun _ _ _ h hb => Rw.new h hb, fun _ _ _ h _ => h, fun _ _ _ h hb => Rw.new h hb, fun _ _ _ h hb => Rw.new h hb, fun _ _ _ h _ => h, fun _ _ _ h _ => h, fun _ _ _ h _ => h, fun _ _ _ h _ => h, fun _ _ _ h _ => h, fun _ _ _ h _ => h, fun _ _ _ h _ => h, trivial⟩
      · refine ⟨?_, ?_, ?_, ?_, ?_, ?_, ?_, ?_, ?_, ?_, ?_, ?_, ?_, ?_, ?_, ?_, ?_, ?_, ?_, trivial⟩
        · exact fun a w hb he hd => ob_plain rfl (gives_move _ rfl ⟨he.1, Below.refl _ _⟩)
        · exact fun a w hb he hd => ob_plain rfl (gives_eq_int (0) (0) .i64 _ _ _ _ rfl hd.1 rfl ⟨congrArg Value.bool (by decide), Below.refl _ _⟩)
        · exact fun a w hb he hd => ob_plain rfl (gives_move _ rfl ⟨hd.1, Below.refl _ _⟩)
        · exact fun a w hb he hd => ob_on 75 rfl (by kernel_rfl) hd.1 (gives_move _ rfl ⟨he.2.1, Below.refl _ _⟩)
        · exact fun a w hb he hd => ob_on 75 rfl (by kernel_rfl) hd.1 (gives_eq_int (0) (0) .i64 _ _ _ _ rfl hd.2.1 rfl ⟨congrArg Value.bool (by decide), Below.refl _ _⟩)
        · exact fun a w hb he hd => ob_plain rfl (gives_pick true _ _ _ rfl hd.1 ⟨hd.2.1, Below.refl _ _⟩)
        · exact fun a w hb he hd => ob_plain rfl (gives_move _ rfl ⟨hd.1, Below.refl _ _⟩)
        · exact fun a w hb he hd => ob_on 79 rfl (by kernel_rfl) hd.1 (load_bx rfl he.2.2.1 (Bx.new BXd.out hb))
        · exact fun a w hb he hd => ob_on 79 rfl (by kernel_rfl) hd.1 (load_bx rfl he.2.2.2.1 (Bx.new BXc.out hb))
        · exact fun a w hb he hd => ob_on 79 rfl (by kernel_rfl) hd.1 (gives_call2 _ _ _ _ rfl call_cmp (cmp_v hd.2.1 hd.2.2.1 (by omega)))
        · exact fun a w hb he hd => ob_on 79 rfl (by kernel_rfl) hd.1 (load_bx rfl he.2.2.2.2.1 (Bx.new BXx.out hb))
        · exact fun a w hb he hd => ob_on 79 rfl (by kernel_rfl) hd.1 (load_bx rfl he.2.2.2.2.2.1 (Bx.new BXy.out hb))
        · exact fun a w hb he hd => ob_on 79 rfl (by kernel_rfl) hd.1 (gives_call2 _ _ _ _ rfl call_cmp (cmp_v hd.2.1 hd.2.2.1 (by omega)))
        · exact fun a w hb he hd => ob_on 79 rfl (by kernel_rfl) hd.1 (gives_eq_int (rcq ((((1 : Int) : Rat)) / y) ((((1 : Int) : Rat)) / x)) (rcq (x) (y)) .i64 _ _ _ _ rfl hd.2.1 hd.2.2.1 ⟨congrArg Value.bool (by rw [hr]; simp), Below.refl _ _⟩)
        · exact fun a w hb he hd => ob_plain rfl (gives_pick true _ _ _ rfl hd.1 ⟨hd.2.1, Below.refl _ _⟩)
        · exact fun a w hb he hd => ob_plain rfl (gives_move _ rfl ⟨hd.1, Below.refl _ _⟩)
        · exact fun a w hb he hd => ob_on 88 rfl (by kernel_rfl) hd.1 (gives_call0 _ _ rfl call_awake (awake_v _))
        · exact fun a w hb he hd => ob_plain rfl (gives_pick true _ _ _ rfl hd.1 ⟨hd.2.1, Below.refl _ _⟩)
        · exact fun a w hb he hd => ob_plain rfl (gives_assign _ rfl ⟨hd.1, Below.refl _ _⟩)
      intro vs w28 hb hR
      have e4 : vs 18 = .bool (true) := hR 18 (by decide)
      clear hR
      simp only [putsL, Nat.zero_add, Nat.reduceAdd, List.take_succ_cons, List.take_zero, Act.put, List.setIfInBounds_toArray, List.set_cons_zero, List.set_cons_succ]
      rw [e4]
      clear e4
      replace BXx := Lib.hid (Bx.new BXx.out hb)
      replace BXy := Lib.hid (Bx.new BXy.out hb)
      replace BXm := Lib.hid (Bx.new BXm.out hb)
      replace BXc := Lib.hid (Bx.new BXc.out hb)
      replace BXd := Lib.hid (Bx.new BXd.out hb)
      replace HW := Lib.hid (bthen HW.out hb HW.out.size); clear hb
      go_wp2_with fail
      go_ret
      exact ⟨rfl, HW.out⟩
set_option maxRecDepth 100000 in
set_option maxHeartbeats 8000000 in
theorem between_far0 {w : World} {s0 : Bool} {A0 B0 : Option Addr} {n0 c0 m0 d0 : Nat} {ds0 fs0 : List Nat} {s1 : Bool} {A1 B1 : Option Addr} {n1 c1 m1 d1 : Nat} {ds1 fs1 : List Nat} (h0 : Bg w A0 n0 c0 B0 m0 d0 ds0 fs0) (h1 : Bg w A1 n1 c1 B1 m1 d1 ds1 fs1) (hf : 8 < n0 ∨ 8 < m0) :
    Calls Try.prog 6 #[.agg #[.bool s0, .slice A0 n0 c0, .slice B0 m0 d0], .agg #[.bool s1, .slice A1 n1 c1, .slice B1 m1 d1]] w fun e w' => e = .returned (.bool true) ∧ Below w.heap.size w w' := by
  have l1 := h0.1.1.le; have l2 := h0.2.1.le
  have HF := Lib.hid hf; have L1 := Lib.hid l1; have L2 := Lib.hid l2; clear hf l1 l2
  have H0 := Lib.hid h0; have H1 := Lib.hid h1; clear h0 h1
  go_enter Try.func6, Try.ntmps6
  go_upto_region 1 with (fail)
  obtain ⟨X0, hX0⟩ : ∃ X : Array Value, X = #[.bool s0, .slice A0 n0 c0, .slice B0 m0 d0] := ⟨_, rfl⟩
  obtain ⟨X1, hX1⟩ : ∃ X : Array Value, X = #[.bool s1, .slice A1 n1 c1, .slice B1 m1 d1] := ⟨_, rfl⟩
  have hW : Below w.heap.size w ((w.alloc (.cells X0 44)).alloc (.cells X1 44)) := ((al w _).alloc (by simp) _)
  have t0 : Blk ((w.alloc (.cells X0 44)).alloc (.cells X1 44)) (w.heap.size) 44 X0 := by
    have := Blk.new w 44 X0
    have := (this.alloc (.cells X1 44))
    simpa using this
  have t1 : Blk ((w.alloc (.cells X0 44)).alloc (.cells X1 44)) (w.heap.size + 1) 44 X1 := by
    have := Blk.new (w.alloc (.cells X0 44)) 44 X1
    have := this
    simpa using this
  rw [hX0, hX1] at hW t0 t1
  clear hX0 hX1
  generalize (w.alloc (.cells #[.bool s0, .slice A0 n0 c0, .slice B0 m0 d0] 44)).alloc (.cells #[.bool s1, .slice A1 n1 c1, .slice B1 m1 d1] 44) = w0 at hW t0 t1 ⊢
  clear X0 X1
  replace H0 := Lib.hid (H0.out.new hW); replace H1 := Lib.hid (H1.out.new hW)
  have HW := Lib.hid hW; clear hW
  have T0 : Hid (TB w0 (w.heap.size) 44 (.bool s0) (.slice A0 n0 c0) (.slice B0 m0 d0)) := Lib.hid t0
  have T1 : Hid (TB w0 (w.heap.size + 1) 44 (.bool s1) (.slice A1 n1 c1) (.slice B1 m1 d1)) := Lib.hid t1
  clear t0 t1
  have q00 := T0.out.c0; have q01 := T0.out.c1; have q02 := T0.out.c2; have q10 := T1.out.c0; have q11 := T1.out.c1; have q12 := T1.out.c2
  go_wp2_with fail
  refine (gr_yes L1.out L2.out HF.out).mono ?_
  rintro e w1 ⟨rfl, hb⟩
  replace H0 := Lib.hid (H0.out.new hb); replace H1 := Lib.hid (H1.out.new hb)
  replace T0 := Lib.hid (T0.out.new hb); replace T1 := Lib.hid (T1.out.new hb)
  replace HW := Lib.hid (bthen HW.out hb HW.out.size)
  clear hb q00 q01 q02 q10 q11 q12
  have q00 := T0.out.c0; have q01 := T0.out.c1; have q02 := T0.out.c2; have q10 := T1.out.c0; have q11 := T1.out.c1; have q12 := T1.out.c2
  go_wp2_with fail
  refine (qawake_any _).mono ?_
  rintro e v1 ⟨rfl, hb⟩
  replace HW := Lib.hid (bthen HW.out hb HW.out.size); clear hb
  go_wp2_with fail
  go_ret
  exact ⟨rfl, HW.out⟩
set_option maxRecDepth 100000 in
set_option maxHeartbeats 8000000 in
theorem between_far1 {w : World} {s0 : Bool} {A0 B0 : Option Addr} {n0 c0 m0 d0 : Nat} {ds0 fs0 : List Nat} {s1 : Bool} {A1 B1 : Option Addr} {n1 c1 m1 d1 : Nat} {ds1 fs1 : List Nat} (h0 : Bg w A0 n0 c0 B0 m0 d0 ds0 fs0) (h1 : Bg w A1 n1 c1 B1 m1 d1 ds1 fs1) (hn0 : n0 ≤ 8) (hm0 : m0 ≤ 8) (hf : 8 < n1 ∨ 8 < m1) :
    Calls Try.prog 6 #[.agg #[.bool s0, .slice A0 n0 c0, .slice B0 m0 d0], .agg #[.bool s1, .slice A1 n1 c1, .slice B1 m1 d1]] w fun e w' => e = .returned (.bool true) ∧ Below w.heap.size w w' := by
  have l1 := h1.1.1.le; have l2 := h1.2.1.le
  have HF := Lib.hid hf; have L1 := Lib.hid l1; have L2 := Lib.hid l2; clear hf l1 l2
  have H0 := Lib.hid h0; have H1 := Lib.hid h1; clear h0 h1
  go_enter Try.func6, Try.ntmps6
  go_upto_region 1 with (fail)
  obtain ⟨X0, hX0⟩ : ∃ X : Array Value, X = #[.bool s0, .slice A0 n0 c0, .slice B0 m0 d0] := ⟨_, rfl⟩
  obtain ⟨X1, hX1⟩ : ∃ X : Array Value, X = #[.bool s1, .slice A1 n1 c1, .slice B1 m1 d1] := ⟨_, rfl⟩
  have hW : Below w.heap.size w ((w.alloc (.cells X0 44)).alloc (.cells X1 44)) := ((al w _).alloc (by simp) _)
  have t0 : Blk ((w.alloc (.cells X0 44)).alloc (.cells X1 44)) (w.heap.size) 44 X0 := by
    have := Blk.new w 44 X0
    have := (this.alloc (.cells X1 44))
    simpa using this
  have t1 : Blk ((w.alloc (.cells X0 44)).alloc (.cells X1 44)) (w.heap.size + 1) 44 X1 := by
    have := Blk.new (w.alloc (.cells X0 44)) 44 X1
    have := this
    simpa using this
  rw [hX0, hX1] at hW t0 t1
  clear hX0 hX1
  generalize (w.alloc (.cells #[.bool s0, .slice A0 n0 c0, .slice B0 m0 d0] 44)).alloc (.cells #[.bool s1, .slice A1 n1 c1, .slice B1 m1 d1] 44) = w0 at hW t0 t1 ⊢
  clear X0 X1
  replace H0 := Lib.hid (H0.out.new hW); replace H1 := Lib.hid (H1.out.new hW)
  have HW := Lib.hid hW; clear hW
  have T0 : Hid (TB w0 (w.heap.size) 44 (.bool s0) (.slice A0 n0 c0) (.slice B0 m0 d0)) := Lib.hid t0
  have T1 : Hid (TB w0 (w.heap.size + 1) 44 (.bool s1) (.slice A1 n1 c1) (.slice B1 m1 d1)) := Lib.hid t1
  clear t0 t1
  have q00 := T0.out.c0; have q01 := T0.out.c1; have q02 := T0.out.c2; have q10 := T1.out.c0; have q11 := T1.out.c1; have q12 := T1.out.c2
  go_wp2_with fail
  refine (gr_no hn0 hm0).mono ?_
  rintro e w1 ⟨rfl, hb⟩
  replace H0 := Lib.hid (H0.out.new hb); replace H1 := Lib.hid (H1.out.new hb)
  replace T0 := Lib.hid (T0.out.new hb); replace T1 := Lib.hid (T1.out.new hb)
  replace HW := Lib.hid (bthen HW.out hb HW.out.size)
  clear hb q00 q01 q02 q10 q11 q12
  have q00 := T0.out.c0; have q01 := T0.out.c1; have q02 := T0.out.c2; have q10 := T1.out.c0; have q11 := T1.out.c1; have q12 := T1.out.c2
  go_wp2_with fail
  refine (gr_yes L1.out L2.out HF.out).mono ?_
  rintro e w2 ⟨rfl, hb⟩
  replace H0 := Lib.hid (H0.out.new hb); replace H1 := Lib.hid (H1.out.new hb)
  replace T0 := Lib.hid (T0.out.new hb); replace T1 := Lib.hid (T1.out.new hb)
  replace HW := Lib.hid (bthen HW.out hb HW.out.size)
  clear hb q00 q01 q02 q10 q11 q12
  have q00 := T0.out.c0; have q01 := T0.out.c1; have q02 := T0.out.c2; have q10 := T1.out.c0; have q11 := T1.out.c1; have q12 := T1.out.c2
  go_wp2_with fail
  refine (qawake_any _).mono ?_
  rintro e v1 ⟨rfl, hb⟩
  replace HW := Lib.hid (bthen HW.out hb HW.out.size); clear hb
  go_wp2_with fail
  go_ret
  exact ⟨rfl, HW.out⟩
theorem ratBetween_walk {s0 : Bool} {A0 B0 : Option Addr} {n0 c0 m0 d0 : Nat} {ds0 fs0 : List Nat} {s1 : Bool} {A1 B1 : Option Addr} {n1 c1 m1 d1 : Nat} {ds1 fs1 : List Nat} (w : World) (h0 : Bg w A0 n0 c0 B0 m0 d0 ds0 fs0) (h1 : Bg w A1 n1 c1 B1 m1 d1 ds1 fs1) :
    Calls Try.prog 6 #[.agg #[.bool s0, .slice A0 n0 c0, .slice B0 m0 d0], .agg #[.bool s1, .slice A1 n1 c1, .slice B1 m1 d1]] w fun e w' => e = .returned (.bool true) ∧ Below w.heap.size w w' := by
  by_cases f0 : 8 < n0 ∨ 8 < m0
  · exact between_far0 h0 h1  f0
  by_cases f1 : 8 < n1 ∨ 8 < m1
  · exact between_far1 h0 h1 (by omega) (by omega) f1
  exact between_near h0 h1 (by omega) (by omega) (by omega) (by omega)
end Go.Proofs.Ytifnbpkcnkfanaa
