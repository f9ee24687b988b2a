/-
  The walk of RatFields.
-/
import Derived.Test.YtifnbpkcnkfanaaQW
namespace Go.Proofs.Ytifnbpkcnkfanaa
open Go.RowKit
set_option linter.unusedSimpArgs false

set_option maxRecDepth 100000 in
set_option maxHeartbeats 8000000 in
theorem fields_near {w : World} {s0 : Bool} {A0 B0 : Option Addr} {n0 c0 m0 d0 : Nat} {ds0 fs0 : List Nat} {s1 : Bool} {A1 B1 : Option Addr} {n1 c1 m1 d1 : Nat} {ds1 fs1 : List Nat} {s2 : Bool} {A2 B2 : Option Addr} {n2 c2 m2 d2 : Nat} {ds2 fs2 : List Nat} (h0 : Bg w A0 n0 c0 B0 m0 d0 ds0 fs0) (h1 : Bg w A1 n1 c1 B1 m1 d1 ds1 fs1) (h2 : Bg w A2 n2 c2 B2 m2 d2 ds2 fs2) (hn0 : n0 ≤ 8) (hm0 : m0 ≤ 8) (hn1 : n1 ≤ 8) (hm1 : m1 ≤ 8) (hn2 : n2 ≤ 8) (hm2 : m2 ≤ 8) :
    Calls Try.prog 4 #[.agg #[.bool s0, .slice A0 n0 c0, .slice B0 m0 d0], .agg #[.bool s1, .slice A1 n1 c1, .slice B1 m1 d1], .agg #[.bool s2, .slice A2 n2 c2, .slice B2 m2 d2]] w fun e w' => e = .returned (.bool true) ∧ Below w.heap.size w w' := by
  have H0 := Lib.hid h0; have H1 := Lib.hid h1; have H2 := Lib.hid h2; clear h0 h1 h2
  go_enter Try.func4, Try.ntmps4
  go_upto_region 1 with (fail)
  obtain ⟨X0, hX0⟩ : ∃ X : Array Value, X = #[.bool s0, .slice A0 n0 c0, .slice B0 m0 d0] := ⟨_, rfl⟩
  obtain ⟨X1, hX1⟩ : ∃ X : Array Value, X = #[.bool s1, .slice A1 n1 c1, .slice B1 m1 d1] := ⟨_, rfl⟩
  obtain ⟨X2, hX2⟩ : ∃ X : Array Value, X = #[.bool s2, .slice A2 n2 c2, .slice B2 m2 d2] := ⟨_, rfl⟩
  have hW : Below w.heap.size w (((w.alloc (.cells X0 44)).alloc (.cells X1 44)).alloc (.cells X2 44)) := (((al w _).alloc (by simp) _).alloc (by simp; omega) _)
  have t0 : Blk (((w.alloc (.cells X0 44)).alloc (.cells X1 44)).alloc (.cells X2 44)) (w.heap.size) 44 X0 := by
    have := Blk.new w 44 X0
    have := ((this.alloc (.cells X1 44)).alloc (.cells X2 44))
    simpa using this
  have t1 : Blk (((w.alloc (.cells X0 44)).alloc (.cells X1 44)).alloc (.cells X2 44)) (w.heap.size + 1) 44 X1 := by
    have := Blk.new (w.alloc (.cells X0 44)) 44 X1
    have := (this.alloc (.cells X2 44))
    simpa using this
  have t2 : Blk (((w.alloc (.cells X0 44)).alloc (.cells X1 44)).alloc (.cells X2 44)) (w.heap.size + 2) 44 X2 := by
    have := Blk.new ((w.alloc (.cells X0 44)).alloc (.cells X1 44)) 44 X2
    have := this
    simpa using this
  rw [hX0, hX1, hX2] at hW t0 t1 t2
  clear hX0 hX1 hX2
  generalize ((w.alloc (.cells #[.bool s0, .slice A0 n0 c0, .slice B0 m0 d0] 44)).alloc (.cells #[.bool s1, .slice A1 n1 c1, .slice B1 m1 d1] 44)).alloc (.cells #[.bool s2, .slice A2 n2 c2, .slice B2 m2 d2] 44) = w0 at hW t0 t1 t2 ⊢
  clear X0 X1 X2
  replace H0 := Lib.hid (H0.out.new hW); replace H1 := Lib.hid (H1.out.new hW); replace H2 := Lib.hid (H2.out.new hW)
  have HW := Lib.hid hW; clear hW
  have T0 : Hid (TB w0 (w.heap.size) 44 (.bool s0) (.slice A0 n0 c0) (.slice B0 m0 d0)) := Lib.hid t0
  have T1 : Hid (TB w0 (w.heap.size + 1) 44 (.bool s1) (.slice A1 n1 c1) (.slice B1 m1 d1)) := Lib.hid t1
  have T2 : Hid (TB w0 (w.heap.size + 2) 44 (.bool s2) (.slice A2 n2 c2) (.slice B2 m2 d2)) := Lib.hid t2
  clear t0 t1 t2
  have q00 := T0.out.c0; have q01 := T0.out.c1; have q02 := T0.out.c2; have q10 := T1.out.c0; have q11 := T1.out.c1; have q12 := T1.out.c2; have q20 := T2.out.c0; have q21 := T2.out.c1; have q22 := T2.out.c2
  go_wp2_with fail
  refine (gr_no hn0 hm0).mono ?_
  rintro e w1 ⟨rfl, hb⟩
  replace H0 := Lib.hid (H0.out.new hb); replace H1 := Lib.hid (H1.out.new hb); replace H2 := Lib.hid (H2.out.new hb)
  replace T0 := Lib.hid (T0.out.new hb); replace T1 := Lib.hid (T1.out.new hb); replace T2 := Lib.hid (T2.out.new hb)
  replace HW := Lib.hid (bthen HW.out hb HW.out.size)
  clear hb q00 q01 q02 q10 q11 q12 q20 q21 q22
  have q00 := T0.out.c0; have q01 := T0.out.c1; have q02 := T0.out.c2; have q10 := T1.out.c0; have q11 := T1.out.c1; have q12 := T1.out.c2; have q20 := T2.out.c0; have q21 := T2.out.c1; have q22 := T2.out.c2
  go_wp2_with fail
  refine (gr_no hn1 hm1).mono ?_
  rintro e w2 ⟨rfl, hb⟩
  replace H0 := Lib.hid (H0.out.new hb); replace H1 := Lib.hid (H1.out.new hb); replace H2 := Lib.hid (H2.out.new hb)
  replace T0 := Lib.hid (T0.out.new hb); replace T1 := Lib.hid (T1.out.new hb); replace T2 := Lib.hid (T2.out.new hb)
  replace HW := Lib.hid (bthen HW.out hb HW.out.size)
  clear hb q00 q01 q02 q10 q11 q12 q20 q21 q22
  have q00 := T0.out.c0; have q01 := T0.out.c1; have q02 := T0.out.c2; have q10 := T1.out.c0; have q11 := T1.out.c1; have q12 := T1.out.c2; have q20 := T2.out.c0; have q21 := T2.out.c1; have q22 := T2.out.c2
  go_wp2_with fail
  refine (gr_no hn2 hm2).mono ?_
  rintro e w3 ⟨rfl, hb⟩
  replace H0 := Lib.hid (H0.out.new hb); replace H1 := Lib.hid (H1.out.new hb); replace H2 := Lib.hid (H2.out.new hb)
  replace T0 := Lib.hid (T0.out.new hb); replace T1 := Lib.hid (T1.out.new hb); replace T2 := Lib.hid (T2.out.new hb)
  replace HW := Lib.hid (bthen HW.out hb HW.out.size)
  clear hb q00 q01 q02 q10 q11 q12 q20 q21 q22
  have q00 := T0.out.c0; have q01 := T0.out.c1; have q02 := T0.out.c2; have q10 := T1.out.c0; have q11 := T1.out.c1; have q12 := T1.out.c2; have q20 := T2.out.c0; have q21 := T2.out.c1; have q22 := T2.out.c2
  go_wp2_with fail
  clear q00 q01 q02 q10 q11 q12 q20 q21 q22
  obtain ⟨x, e0⟩ : ∃ x, x = qv s0 (valB 4294967296 ds0) (valB 4294967296 fs0) := ⟨_, rfl⟩
  have C0 := Lib.hid (show ∀ W, Below w3.heap.size w3 W → ∀ v, v = .agg #[.bool s0, .slice A0 n0 c0, .slice B0 m0 d0] → Calls Try.prog 20 #[v] W (RV W (Rw 8 x)) from fun W hb v hv => by rw [e0]; exact rats_v (H0.out.new hb) hn0 hm0 v hv)
  clear H0 e0 hn0 hm0
  obtain ⟨y, e1⟩ : ∃ x, x = qv s1 (valB 4294967296 ds1) (valB 4294967296 fs1) := ⟨_, rfl⟩
  have C1 := Lib.hid (show ∀ W, Below w3.heap.size w3 W → ∀ v, v = .agg #[.bool s1, .slice A1 n1 c1, .slice B1 m1 d1] → Calls Try.prog 20 #[v] W (RV W (Rw 8 y)) from fun W hb v hv => by rw [e1]; exact rats_v (H1.out.new hb) hn1 hm1 v hv)
  clear H1 e1 hn1 hm1
  obtain ⟨z, e2⟩ : ∃ x, x = qv s2 (valB 4294967296 ds2) (valB 4294967296 fs2) := ⟨_, rfl⟩
  have C2 := Lib.hid (show ∀ W, Below w3.heap.size w3 W → ∀ v, v = .agg #[.bool s2, .slice A2 n2 c2, .slice B2 m2 d2] → Calls Try.prog 20 #[v] W (RV W (Rw 8 z)) from fun W hb v hv => by rw [e2]; exact rats_v (H2.out.new hb) hn2 hm2 v hv)
  clear H2 e2 hn2 hm2
  refine wp_region_join (kss := [[], [(0, 23)], [], [(2, 25)], [], [(4, 27)], [], [], []]) [(3, .pointer (some ⟨w.heap.size, 0, none⟩)), (4, .pointer (some ⟨w.heap.size + 1, 0, none⟩)), (5, .pointer (some ⟨w.heap.size + 2, 0, none⟩))] [fun v _ => v = .agg #[.bool s0, .slice A0 n0 c0, .slice B0 m0 d0], Rw 8 x, fun v _ => v = .agg #[.bool s1, .slice A1 n1 c1, .slice B1 m1 d1], Rw 8 y, fun v _ => v = .agg #[.bool s2, .slice A2 n2 c2, .slice B2 m2 d2], Rw 8 z, Zb w3.heap.size, Zb w3.heap.size, Zb w3.heap.size] 9 [] (by kernel_rfl) (by kernel_rfl) ⟨rfl, rfl, rfl, trivial⟩ [false, false, false, false, false, false, true, true, true] ?_ ?_ ?_ ?_
  · exact fun i hi => absurd hi (by simp)
  · exact ⟨fun _ _ _ h _ => h, fun _ _ _ h hb => Rw.new h hb, fun _ _ _ h _ => h, fun _ _ _ h hb => Rw.new h hb, fun _ _ _ h _ => h, fun _ _ _ h hb => Rw.new h hb, fun _ _ _ h hb => Zb.new h hb, fun _ _ _ h hb => Zb.new h hb, fun _ _ _ h hb => Zb.new h hb, trivial⟩
  · refine ⟨?_, ?_, ?_, ?_, ?_, ?_, ?_, ?_, ?_, trivial⟩
    · exact fun a w hb he _ => ob_plain rfl (load_big rfl he.1 (T0.out.new hb))
    · exact fun a w hb _ hd => ob_plain rfl (gives_call1 _ _ _ rfl call_rats (C0.out w hb _ hd.1))
    · exact fun a w hb he _ => ob_plain rfl (load_big rfl he.2.1 (T1.out.new hb))
    · exact fun a w hb _ hd => ob_plain rfl (gives_call1 _ _ _ rfl call_rats (C1.out w hb _ hd.1))
    · exact fun a w hb he _ => ob_plain rfl (load_big rfl he.2.2.1 (T2.out.new hb))
    · exact fun a w hb _ hd => ob_plain rfl (gives_call1 _ _ _ rfl call_rats (C2.out w hb _ hd.1))
    · exact fun a w hb _ _ => ⟨by simp [Region.wanted], alloc_rat rfl hb⟩
    · exact fun a w hb _ _ => ⟨by simp [Region.wanted], alloc_rat rfl hb⟩
    · exact fun a w hb _ _ => ⟨by simp [Region.wanted], alloc_rat rfl hb⟩
  intro vs w5 hb hR hN
  have r0 : Rw 8 x (vs 1) w5 := hR 1 (by omega)
  have r1 : Rw 8 y (vs 3) w5 := hR 3 (by omega)
  have r2 : Rw 8 z (vs 5) w5 := hR 5 (by omega)
  obtain ⟨g0, k0, z0⟩ : Zb w3.heap.size (vs 6) w5 := hR 6 (by omega)
  obtain ⟨g1, k1, z1⟩ : Zb w3.heap.size (vs 7) w5 := hR 7 (by omega)
  obtain ⟨g2, k2, z2⟩ : Zb w3.heap.size (vs 8) w5 := hR 8 (by omega)
  have ne01 : g0 ≠ g1 := fun h => hN 6 7 (by omega) (by omega) (by omega) rfl rfl (by rw [k0, k1, h])
  have ne02 : g0 ≠ g2 := fun h => hN 6 8 (by omega) (by omega) (by omega) rfl rfl (by rw [k0, k2, h])
  have ne12 : g1 ≠ g2 := fun h => hN 7 8 (by omega) (by omega) (by omega) rfl rfl (by rw [k1, k2, h])
  clear hN hR
  simp only [putsL, Nat.zero_add, Nat.reduceAdd, List.take_succ_cons, List.take_zero, Act.put, List.setIfInBounds_toArray, List.set_cons_zero, List.set_cons_succ]
  rw [k0, k1, k2]
  generalize vs 1 = u0 at *
  generalize vs 3 = u1 at *
  generalize vs 5 = u2 at *
  show wpAny _ _ _ _ 3 _ _ _
  clear k0 k1 k2
  refine wpAny_next (i := 9) (by kernel_rfl) rfl rfl (store_rat rfl rfl rfl rfl z0 r0 ?_)
  intro w6 x0 K0
  have hb0 : Below w3.heap.size w3 w6 := K0.below z0.1 hb
  replace r1 := K0.rw r1; replace z1 := K0.zx (Ne.symm ne01) z1
  replace r2 := K0.rw r2; replace z2 := K0.zx (Ne.symm ne02) z2
  refine wpAny_next (i := 10) (by kernel_rfl) rfl rfl (store_rat rfl rfl rfl rfl z1 r1 ?_)
  intro w7 x1 K1
  have hb1 : Below w3.heap.size w3 w7 := K1.below z1.1 hb0
  replace x0 := K1.bx ne01 x0
  replace r2 := K1.rw r2; replace z2 := K1.zx (Ne.symm ne12) z2
  refine wpAny_next (i := 11) (by kernel_rfl) rfl rfl (store_rat rfl rfl rfl rfl z2 r2 ?_)
  intro w8 x2 K2
  have hb2 : Below w3.heap.size w3 w8 := K2.below z2.1 hb1
  replace x0 := K2.bx ne02 x0
  replace x1 := K2.bx ne12 x1
  refine wpAny_end (by kernel_rfl) (calm_normal ?_) _
  replace HW := Lib.hid (bthen HW.out hb2 HW.out.size)
  have BXx := Lib.hid x0; have BXy := Lib.hid x1; have BXz := Lib.hid x2
  clear x0 hb0 r0 z0 K0 C0 T0 x1 hb1 r1 z1 K1 C1 T1 x2 hb2 r2 z2 K2 C2 T2 hb ne01 ne02 ne12
  go_wp2_with fail
  refine wp_region_each (kss := [[], [], [(0, 29), (1, 30)], [], [], [(3, 32), (4, 33)], [(2, 31), (5, 34)], [(6, 35)], [(7, 36)], [(8, 37)], [(8, 37)], [(8, 37), (9, 38), (10, 39)], [(8, 37)], [(8, 37), (11, 40), (12, 41)], [(8, 37)], [(8, 37)], [(8, 37)], [(8, 37), (15, 44), (16, 45)], [(8, 37), (14, 43), (17, 46)], [(8, 37), (13, 42), (18, 47)], [(8, 37), (19, 48)], [(8, 37), (20, 49)], [(21, 50)], [(22, 51)], [(22, 51)], [(22, 51), (23, 52), (24, 53)], [(22, 51)], [(22, 51)], [(22, 51), (26, 55), (27, 56)], [(22, 51), (25, 54), (28, 57)], [(22, 51), (29, 58)], [(22, 51), (30, 59)], [(31, 60)], [(32, 61)], [(32, 61)], [(32, 61), (33, 62), (34, 63)], [(32, 61)], [(32, 61), (35, 64), (36, 65)], [(32, 61)], [(32, 61)], [(32, 61)], [(32, 61), (39, 68), (40, 69)], [(32, 61), (38, 67), (41, 70)], [(32, 61), (37, 66), (42, 71)], [(32, 61), (43, 72)], [(32, 61), (44, 73)]]) [(7, .pointer (some ⟨g0, 0, none⟩)), (8, .pointer (some ⟨g1, 0, none⟩)), (9, .pointer (some ⟨g2, 0, none⟩))] [Rw 8 (x), Rw 8 (y), Rv 17 (x + y), Rw 8 (y), Rw 8 (x), Rv 17 (y + x), fun v _ => v = .bool (true), fun v _ => v = .bool (false), fun v _ => v = .bool (false), Rw 8 (x), Rw 8 (y), Rv 17 (x + y), Rw 8 (z), Rv 26 ((x + y) + z), Rw 8 (x), Rw 8 (y), Rw 8 (z), Rv 17 (y + z), Rv 26 (x + (y + z)), fun v _ => v = .bool (true), fun v _ => v = .bool (false), fun v _ => v = .bool (false), fun v _ => v = .bool (false), Rw 8 (x), Rw 8 (y), Rv 16 (x * y), Rw 8 (y), Rw 8 (x), Rv 16 (y * x), fun v _ => v = .bool (true), fun v _ => v = .bool (false), fun v _ => v = .bool (false), fun v _ => v = .bool (false), Rw 8 (x), Rw 8 (y), Rv 16 (x * y), Rw 8 (z), Rv 24 ((x * y) * z), Rw 8 (x), Rw 8 (y), Rw 8 (z), Rv 16 (y * z), Rv 24 (x * (y * z)), fun v _ => v = .bool (true), fun v _ => v = .bool (false), fun v _ => v = .bool (false)] (by kernel_rfl) (by kernel_rfl) ⟨rfl, rfl, rfl, trivial⟩ ?_ ?_ ?_
  · exact ⟨fun _ _ _ h hb => Rw.new h hb, fun _ _ _ h hb => Rw.new h hb, fun _ _ _ h hb => Rv.new h hb, fun _ _ _ h hb => Rw.new h hb, fun _ _ _ h hb => Rw.new h hb, fun _ _ _ h hb => Rv.new h hb, fun _ _ _ h _ => h, fun _ _ _ h _ => h, fun _ _ _ h _ => h, fun _ _ _ h hb => Rw.new h hb, fun _ _ _ h hb => Rw.new h hb, fun _ _ _ h hb => Rv.new h hb, fun _ _ _ h hb => Rw.new h hb, fun _ _ _ h hb => Rv.new h hb, fun _ _ _ h hb => Rw.new h hb, fun _ _ _ h hb => Rw.new h hb, fun _ _ _ h hb => Rw.new h hb, fun _ _ _ h hb => Rv.new h hb, fun _ _ _ h hb => Rv.new h hb, fun _ _ _ h _ => h, fun _ _ _ h _ => h, fun _ _ _ h _ => h, fun _ _ _ h _ => h, fun _ _ _ h hb => Rw.new h hb, fun _ _ _ h hb => Rw.new h hb, fun _ _ _ h hb => Rv.new h hb, fun _ _ _ h hb => Rw.new h hb, fun _ _ _ h hb => Rw.new h hb, fun _ _ _ h hb => Rv.new h hb, fun _ _ _ h _ => h, fun _ _ _ h _ => h, fun _ _ _ h _ => h, fun _ _ _ h _ => h, fun _ _ _ h hb => Rw.new h hb, fun _ _ _ h hb => Rw.new h hb, fun _ _ _ h hb => Rv.new h hb, fun _ _ _ h hb => Rw.new h hb, fun _ _ _ h hb => Rv.new h hb, fun _ _ _ h hb => Rw.new h hb, fun _ _ _ h hb => Rw.new h hb, fun _ _ _ h hb => Rw.new h hb, fun _ _ _ h hb => Rv.new h hb, fun _ _ _ h hb => Rv.new h hb, fun _ _ _ h _ => h, fun _ _ _ h _ => h, fun _ _ _ h _ => h, trivial⟩
  · refine ⟨?_, ?_, ?_, ?_, ?_, ?_, ?_, ?_, ?_, ?_, ?_, ?_, ?_, ?_, ?_, ?_, ?_, ?_, ?_, ?_, ?_, ?_, ?_, ?_, ?_, ?_, ?_, ?_, ?_, ?_, ?_, ?_, ?_, ?_, ?_, ?_, ?_, ?_, ?_, ?_, ?_, ?_, ?_, ?_, ?_, ?_, trivial⟩
    · exact fun a w hb he hd => ob_plain rfl (load_bx rfl he.1 (Bx.new BXx.out hb))
    · exact fun a w hb he hd => ob_plain rfl (load_bx rfl he.2.1 (Bx.new BXy.out hb))
    · exact fun a w hb he hd => ob_plain rfl (gives_call2 _ _ _ _ rfl call_add (add_v hd.1 hd.2.1 (by omega)))
    · exact fun a w hb he hd => ob_plain rfl (load_bx rfl he.2.1 (Bx.new BXy.out hb))
    · exact fun a w hb he hd => ob_plain rfl (load_bx rfl he.1 (Bx.new BXx.out hb))
    · exact fun a w hb he hd => ob_plain rfl (gives_call2 _ _ _ _ rfl call_add (add_v hd.1 hd.2.1 (by omega)))
    · exact fun a w hb he hd => ob_plain rfl (gives_call2 _ _ _ _ rfl call_same (same_y hd.1 hd.2.1 (Rat.add_comm _ _)))
    · exact fun a w hb he hd => ob_plain rfl (gives_not (true) _ _ rfl hd.1 ⟨rfl, Below.refl _ _⟩)
    · exact fun a w hb he hd => ob_plain rfl (gives_move _ rfl ⟨hd.1, Below.refl _ _⟩)
    · exact fun a w hb he hd => ob_on 37 rfl (by kernel_rfl) hd.1 (load_bx rfl he.1 (Bx.new BXx.out hb))
    · exact fun a w hb he hd => ob_on 37 rfl (by kernel_rfl) hd.1 (load_bx rfl he.2.1 (Bx.new BXy.out hb))
    · exact fun a w hb he hd => ob_on 37 rfl (by kernel_rfl) hd.1 (gives_call2 _ _ _ _ rfl call_add (add_v hd.2.1 hd.2.2.1 (by omega)))
    · exact fun a w hb he hd => ob_on 37 rfl (by kernel_rfl) hd.1 (load_bx rfl he.2.2.1 (Bx.new BXz.out hb))
    · exact fun a w hb he hd => ob_on 37 rfl (by kernel_rfl) hd.1 (gives_call2 _ _ _ _ rfl call_add (add_v hd.2.1.rw hd.2.2.1 (by omega)))
    · exact fun a w hb he hd => ob_on 37 rfl (by kernel_rfl) hd.1 (load_bx rfl he.1 (Bx.new BXx.out hb))
    · exact fun a w hb he hd => ob_on 37 rfl (by kernel_rfl) hd.1 (load_bx rfl he.2.1 (Bx.new BXy.out hb))
    · exact fun a w hb he hd => ob_on 37 rfl (by kernel_rfl) hd.1 (load_bx rfl he.2.2.1 (Bx.new BXz.out hb))
    · exact fun a w hb he hd => ob_on 37 rfl (by kernel_rfl) hd.1 (gives_call2 _ _ _ _ rfl call_add (add_v hd.2.1 hd.2.2.1 (by omega)))
    · exact fun a w hb he hd => ob_on 37 rfl (by kernel_rfl) hd.1 (gives_call2 _ _ _ _ rfl call_add (add_v hd.2.1 hd.2.2.1.rw (by omega)))
    · exact fun a w hb he hd => ob_on 37 rfl (by kernel_rfl) hd.1 (gives_call2 _ _ _ _ rfl call_same (same_y hd.2.1 hd.2.2.1 (Rat.add_assoc _ _ _)))
    · exact fun a w hb he hd => ob_on 37 rfl (by kernel_rfl) hd.1 (gives_not (true) _ _ rfl hd.2.1 ⟨rfl, Below.refl _ _⟩)
    · exact fun a w hb he hd => ob_plain rfl (gives_pick false _ _ _ rfl hd.1 ⟨hd.2.1, Below.refl _ _⟩)
    · exact fun a w hb he hd => ob_plain rfl (gives_move _ rfl ⟨hd.1, Below.refl _ _⟩)
    · exact fun a w hb he hd => ob_on 51 rfl (by kernel_rfl) hd.1 (load_bx rfl he.1 (Bx.new BXx.out hb))
    · exact fun a w hb he hd => ob_on 51 rfl (by kernel_rfl) hd.1 (load_bx rfl he.2.1 (Bx.new BXy.out hb))
    · exact fun a w hb he hd => ob_on 51 rfl (by kernel_rfl) hd.1 (gives_call2 _ _ _ _ rfl call_mul (mul_v hd.2.1 hd.2.2.1 (by omega)))
    · exact fun a w hb he hd => ob_on 51 rfl (by kernel_rfl) hd.1 (load_bx rfl he.2.1 (Bx.new BXy.out hb))
    · exact fun a w hb he hd => ob_on 51 rfl (by kernel_rfl) hd.1 (load_bx rfl he.1 (Bx.new BXx.out hb))
    · exact fun a w hb he hd => ob_on 51 rfl (by kernel_rfl) hd.1 (gives_call2 _ _ _ _ rfl call_mul (mul_v hd.2.1 hd.2.2.1 (by omega)))
    · exact fun a w hb he hd => ob_on 51 rfl (by kernel_rfl) hd.1 (gives_call2 _ _ _ _ rfl call_same (same_y hd.2.1 hd.2.2.1 (Rat.mul_comm _ _)))
    · exact fun a w hb he hd => ob_on 51 rfl (by kernel_rfl) hd.1 (gives_not (true) _ _ rfl hd.2.1 ⟨rfl, Below.refl _ _⟩)
    · exact fun a w hb he hd => ob_plain rfl (gives_pick false _ _ _ rfl hd.1 ⟨hd.2.1, Below.refl _ _⟩)
    · exact fun a w hb he hd => ob_plain rfl (gives_move _ rfl ⟨hd.1, Below.refl _ _⟩)
    · exact fun a w hb he hd => ob_on 61 rfl (by kernel_rfl) hd.1 (load_bx rfl he.1 (Bx.new BXx.out hb))
    · exact fun a w hb he hd => ob_on 61 rfl (by kernel_rfl) hd.1 (load_bx rfl he.2.1 (Bx.new BXy.out hb))
    · exact fun a w hb he hd => ob_on 61 rfl (by kernel_rfl) hd.1 (gives_call2 _ _ _ _ rfl call_mul (mul_v hd.2.1 hd.2.2.1 (by omega)))
    · exact fun a w hb he hd => ob_on 61 rfl (by kernel_rfl) hd.1 (load_bx rfl he.2.2.1 (Bx.new BXz.out hb))
    · exact fun a w hb he hd => ob_on 61 rfl (by kernel_rfl) hd.1 (gives_call2 _ _ _ _ rfl call_mul (mul_v hd.2.1.rw hd.2.2.1 (by omega)))
    · exact fun a w hb he hd => ob_on 61 rfl (by kernel_rfl) hd.1 (load_bx rfl he.1 (Bx.new BXx.out hb))
    · exact fun a w hb he hd => ob_on 61 rfl (by kernel_rfl) hd.1 (load_bx rfl he.2.1 (Bx.new BXy.out hb))
    · exact fun a w hb he hd => ob_on 61 rfl (by kernel_rfl) hd.1 (load_bx rfl he.2.2.1 (Bx.new BXz.out hb))
    · exact fun a w hb he hd => ob_on 61 rfl (by kernel_rfl) hd.1 (gives_call2 _ _ _ _ rfl call_mul (mul_v hd.2.1 hd.2.2.1 (by omega)))
    · exact fun a w hb he hd => ob_on 61 rfl (by kernel_rfl) hd.1 (gives_call2 _ _ _ _ rfl call_mul (mul_v hd.2.1 hd.2.2.1.rw (by omega)))
    · exact fun a w hb he hd => ob_on 61 rfl (by kernel_rfl) hd.1 (gives_call2 _ _ _ _ rfl call_same (same_y hd.2.1 hd.2.2.1 (Rat.mul_assoc _ _ _)))
    · exact fun a w hb he hd => ob_on 61 rfl (by kernel_rfl) hd.1 (gives_not (true) _ _ rfl hd.2.1 ⟨rfl, Below.refl _ _⟩)
    · exact fun a w hb he hd => ob_plain rfl (gives_pick false _ _ _ rfl hd.1 ⟨hd.2.1, Below.refl _ _⟩)
  intro vs w20 hb hR
  have e74 : vs 45 = .bool (false) := hR 45 (by decide)
  clear hR
  simp only [putsL, Nat.zero_add, Nat.reduceAdd, List.take_succ_cons, List.take_zero, Act.put, List.setIfInBounds_toArray, List.set_cons_zero, List.set_cons_succ]
  rw [e74]
  clear e74
  replace BXx := Lib.hid (Bx.new BXx.out hb)
  replace BXy := Lib.hid (Bx.new BXy.out hb)
  replace BXz := Lib.hid (Bx.new BXz.out hb)
  replace HW := Lib.hid (bthen HW.out hb HW.out.size); clear hb
  go_wp2_with fail
  refine wp_region_each (kss := [[], [], [], [(1, 76), (2, 77)], [(0, 75), (3, 78)], [], [], [(5, 80), (6, 81)], [], [], [(8, 83), (9, 84)], [(7, 82), (10, 85)], [(4, 79), (11, 86)], [(12, 87)], [(13, 88)], [(14, 89)], [(14, 89)], [(14, 89), (16, 91)], [(14, 89), (15, 90), (17, 92)], [(14, 89), (18, 93)], [(14, 89), (19, 94)], [(14, 89), (20, 95)], [(21, 96)], [(22, 97)], [(22, 97)], [(22, 97), (23, 98), (24, 99)], [(22, 97)], [(22, 97)], [(22, 97), (27, 102)], [(22, 97), (26, 101), (28, 103)], [(22, 97), (25, 100), (29, 104)], [(22, 97), (30, 105)], [(22, 97), (31, 106)]]) [(7, .pointer (some ⟨g0, 0, none⟩)), (8, .pointer (some ⟨g1, 0, none⟩)), (9, .pointer (some ⟨g2, 0, none⟩))] [Rw 8 (x), Rw 8 (y), Rw 8 (z), Rv 17 (y + z), Rv 25 (x * (y + z)), Rw 8 (x), Rw 8 (y), Rv 16 (x * y), Rw 8 (x), Rw 8 (z), Rv 16 (x * z), Rv 33 ((x * y) + (x * z)), fun v _ => v = .bool (true), fun v _ => v = .bool (false), fun v _ => v = .bool (false), Rw 8 (x), Rw 8 (x), Rv 8 (-x), Rv 17 (x + (-x)), fun v _ => v = .int .i64 ((x + (-x)).num.sign), fun v _ => v = .bool (false), fun v _ => v = .bool (false), fun v _ => v = .bool (false), Rw 8 (x), Rw 8 (y), Rv 17 (x - y), Rw 8 (x), Rw 8 (y), Rv 8 (-y), Rv 17 (x + (-y)), fun v _ => v = .bool (true), fun v _ => v = .bool (false), fun v _ => v = .bool (false)] (by kernel_rfl) (by kernel_rfl) ⟨rfl, rfl, rfl, trivial⟩ ?_ ?_ ?_
  · exact ⟨fun _ _ _ h hb => Rw.new h hb, fun _ _ _ h hb => Rw.new h hb, fun _ _ _ h hb => Rw.new h hb, fun _ _ _ h hb => Rv.new h hb, fun _ _ _ h hb => Rv.new h hb, fun _ _ _ h hb => Rw.new h hb, fun _ _ _ h hb => Rw.new h hb, fun _ _ _ h hb => Rv.new h hb, fun _ _ _ h hb => Rw.new h hb, fun _ _ _ h hb => Rw.new h hb, fun _ _ _ h hb => Rv.new h hb, fun _ _ _ h hb => Rv.new h hb, fun _ _ _ h _ => h, fun _ _ _ h _ => h, fun _ _ _ h _ => h, fun _ _ _ h hb => Rw.new h hb, fun _ _ _ h hb => Rw.new h hb, fun _ _ _ h hb => Rv.new h hb, fun _ _ _ h hb => Rv.new h hb, fun _ _ _ h _ => h, fun _ _ _ h _ => h, fun _ _ _ h _ => h, fun _ _ _ h _ => h, fun _ _ _ h hb => Rw.new h hb, fun _ _ _ h hb => Rw.new h hb, fun _ _ _ h hb => Rv.new h hb, fun _ _ _ h hb => Rw.new h hb, fun _ _ _ h hb => Rw.new h hb, fun _ _ _ h hb => Rv.new h hb, fun _ _ _ h hb => Rv.new h hb, fun _ _ _ h _ => h, fun _ _ _ h _ => h, fun _ _ _ h _ => h, trivial⟩
  · refine ⟨?_, ?_, ?_, ?_, ?_, ?_, ?_, ?_, ?_, ?_, ?_, ?_, ?_, ?_, ?_, ?_, ?_, ?_, ?_, ?_, ?_, ?_, ?_, ?_, ?_, ?_, ?_, ?_, ?_, ?_, ?_, ?_, ?_, trivial⟩
    · exact fun a w hb he hd => ob_plain rfl (load_bx rfl he.1 (Bx.new BXx.out hb))
    · exact fun a w hb he hd => ob_plain rfl (load_bx rfl he.2.1 (Bx.new BXy.out hb))
    · exact fun a w hb he hd => ob_plain rfl (load_bx rfl he.2.2.1 (Bx.new BXz.out hb))
    · exact fun a w hb he hd => ob_plain rfl (gives_call2 _ _ _ _ rfl call_add (add_v hd.1 hd.2.1 (by omega)))
    · exact fun a w hb he hd => ob_plain rfl (gives_call2 _ _ _ _ rfl call_mul (mul_v hd.1 hd.2.1.rw (by omega)))
    · exact fun a w hb he hd => ob_plain rfl (load_bx rfl he.1 (Bx.new BXx.out hb))
    · exact fun a w hb he hd => ob_plain rfl (load_bx rfl he.2.1 (Bx.new BXy.out hb))
    · exact fun a w hb he hd => ob_plain rfl (gives_call2 _ _ _ _ rfl call_mul (mul_v hd.1 hd.2.1 (by omega)))
    · exact fun a w hb he hd => ob_plain rfl (load_bx rfl he.1 (Bx.new BXx.out hb))
    · exact fun a w hb he hd => ob_plain rfl (load_bx rfl he.2.2.1 (Bx.new BXz.out hb))
    · exact fun a w hb he hd => ob_plain rfl (gives_call2 _ _ _ _ rfl call_mul (mul_v hd.1 hd.2.1 (by omega)))
    · exact fun a w hb he hd => ob_plain rfl (gives_call2 _ _ _ _ rfl call_add (add_v hd.1.rw hd.2.1.rw (by omega)))
    · exact fun a w hb he hd => ob_plain rfl (gives_call2 _ _ _ _ rfl call_same (same_y hd.1 hd.2.1 (by grind)))
    · exact fun a w hb he hd => ob_plain rfl (gives_not (true) _ _ rfl hd.1 ⟨rfl, Below.refl _ _⟩)
    · exact fun a w hb he hd => ob_plain rfl (gives_move _ rfl ⟨hd.1, Below.refl _ _⟩)
    · exact fun a w hb he hd => ob_on 89 rfl (by kernel_rfl) hd.1 (load_bx rfl he.1 (Bx.new BXx.out hb))
    · exact fun a w hb he hd => ob_on 89 rfl (by kernel_rfl) hd.1 (load_bx rfl he.1 (Bx.new BXx.out hb))
    · exact fun a w hb he hd => ob_on 89 rfl (by kernel_rfl) hd.1 (gives_call1 _ _ _ rfl call_neg (neg_v hd.2.1 (by omega)))
    · exact fun a w hb he hd => ob_on 89 rfl (by kernel_rfl) hd.1 (gives_call2 _ _ _ _ rfl call_add (add_v hd.2.1 hd.2.2.1.rw (by omega)))
    · exact fun a w hb he hd => ob_on 89 rfl (by kernel_rfl) hd.1 (gives_call1 _ _ _ rfl call_sign (sign_v hd.2.1.rw))
    · exact fun a w hb he hd => ob_on 89 rfl (by kernel_rfl) hd.1 (gives_ne_int ((x + (-x)).num.sign) (0) .i64 _ _ _ _ rfl hd.2.1 rfl ⟨congrArg Value.bool (by rw [show x + -x = 0 by grind]; rfl), Below.refl _ _⟩)
    · exact fun a w hb he hd => ob_plain rfl (gives_pick false _ _ _ rfl hd.1 ⟨hd.2.1, Below.refl _ _⟩)
    · exact fun a w hb he hd => ob_plain rfl (gives_move _ rfl ⟨hd.1, Below.refl _ _⟩)
    · exact fun a w hb he hd => ob_on 97 rfl (by kernel_rfl) hd.1 (load_bx rfl he.1 (Bx.new BXx.out hb))
    · exact fun a w hb he hd => ob_on 97 rfl (by kernel_rfl) hd.1 (load_bx rfl he.2.1 (Bx.new BXy.out hb))
    · exact fun a w hb he hd => ob_on 97 rfl (by kernel_rfl) hd.1 (gives_call2 _ _ _ _ rfl call_sub (sub_v hd.2.1 hd.2.2.1 (by omega)))
    · exact fun a w hb he hd => ob_on 97 rfl (by kernel_rfl) hd.1 (load_bx rfl he.1 (Bx.new BXx.out hb))
    · exact fun a w hb he hd => ob_on 97 rfl (by kernel_rfl) hd.1 (load_bx rfl he.2.1 (Bx.new BXy.out hb))
    · exact fun a w hb he hd => ob_on 97 rfl (by kernel_rfl) hd.1 (gives_call1 _ _ _ rfl call_neg (neg_v hd.2.1 (by omega)))
    · exact fun a w hb he hd => ob_on 97 rfl (by kernel_rfl) hd.1 (gives_call2 _ _ _ _ rfl call_add (add_v hd.2.1 hd.2.2.1.rw (by omega)))
    · exact fun a w hb he hd => ob_on 97 rfl (by kernel_rfl) hd.1 (gives_call2 _ _ _ _ rfl call_same (same_y hd.2.1 hd.2.2.1 (by grind)))
    · exact fun a w hb he hd => ob_on 97 rfl (by kernel_rfl) hd.1 (gives_not (true) _ _ rfl hd.2.1 ⟨rfl, Below.refl _ _⟩)
    · exact fun a w hb he hd => ob_plain rfl (gives_pick false _ _ _ rfl hd.1 ⟨hd.2.1, Below.refl _ _⟩)
  intro vs w21 hb hR
  have e107 : vs 32 = .bool (false) := hR 32 (by decide)
  clear hR
  simp only [putsL, Nat.zero_add, Nat.reduceAdd, List.take_succ_cons, List.take_zero, Act.put, List.setIfInBounds_toArray, List.set_cons_zero, List.set_cons_succ]
  rw [e107]
  clear e107
  replace BXx := Lib.hid (Bx.new BXx.out hb)
  replace BXy := Lib.hid (Bx.new BXy.out hb)
  replace BXz := Lib.hid (Bx.new BXz.out hb)
  replace HW := Lib.hid (bthen HW.out hb HW.out.size); clear hb
  go_upto_region 8 with (fail)
  by_cases hy : y = 0
  · have ty : ((y).num.sign == 0) = true := by rw [hy]; rfl
    refine wp_region_joins (kss := [[], [], [(0, 109), (1, 110)], [(2, 111)], [(3, 108)], [(3, 108)], []]) [(7, .pointer (some ⟨g0, 0, none⟩)), (8, .pointer (some ⟨g1, 0, none⟩))] [Rw 8 (x), Rw 8 (y), fun v _ => v = .tuple #[.agg #[.bool false, .slice none 0 0, .slice none 0 0], .int .i64 18], fun v _ => v = .tuple #[.agg #[.bool false, .slice none 0 0, .slice none 0 0], .int .i64 18], Rw 1 (0), fun v _ => v = .int .i64 (18), Zb w21.heap.size] 7 (by kernel_rfl) ⟨rfl, rfl, trivial⟩ [false, false, false, false, false, false, true] ?_ ?_ ?_
    · exact ⟨fun _ _ _ h hb => Rw.new h hb, fun _ _ _ h hb => Rw.new h hb, fun _ _ _ h _ => h, fun _ _ _ h _ => h, fun _ _ _ h hb => Rw.new h hb, fun _ _ _ h _ => h, fun _ _ _ h hb => Zb.new h hb, trivial⟩
    · refine ⟨?_, ?_, ?_, ?_, ?_, ?_, ?_, trivial⟩
      · exact fun a w hb he hd => ob_plain rfl (load_bx rfl he.1 (Bx.new BXx.out hb))
      · exact fun a w hb he hd => ob_plain rfl (load_bx rfl he.2.1 (Bx.new BXy.out hb))
      · exact fun a w hb he hd => ob_plain rfl (gives_call2 _ _ _ _ rfl call_div (div_0 hd.1 hd.2.1 (by omega) (hy)))
      · exact fun a w hb he hd => ob_plain rfl (gives_move _ rfl ⟨hd.1, Below.refl _ _⟩)
      · exact fun a w hb he hd => ob_plain rfl (ext_z rfl hd.1)
      · exact fun a w hb he hd => ob_plain rfl (ext_ze rfl hd.1)
      · exact fun a w hb he hd => ⟨by simp [Region.wanted], alloc_rat rfl hb⟩
    intro vs w22 hb hR
    have rq : Rw 1 (0) (vs 4) w22 := hR 4 (by decide)
    obtain ⟨gBXq, kq, zq⟩ : Zb w21.heap.size (vs 6) w22 := hR 6 (by decide)
    have eq : vs 5 = .int .i64 18 := hR 5 (by decide)
    clear hR
    simp only [putsL, Nat.zero_add, Nat.reduceAdd, List.take_succ_cons, List.take_zero, Act.put, List.setIfInBounds_toArray, List.set_cons_zero, List.set_cons_succ]
    rw [kq, eq]
    clear kq eq
    show wpOps _ _ _ [7, 8] _ _
    refine wpOps_next rfl rfl (store_rat rfl rfl rfl rfl zq rq ?_)
    intro w23 xq Kq
    have hb2 := Kq.below zq.1 hb
    replace BXx := Lib.hid (Kq.bx (Nat.ne_of_lt (Nat.lt_of_lt_of_le (Bx.lt BXx.out) zq.1)) (Bx.new BXx.out hb))
    replace BXy := Lib.hid (Kq.bx (Nat.ne_of_lt (Nat.lt_of_lt_of_le (Bx.lt BXy.out) zq.1)) (Bx.new BXy.out hb))
    replace BXz := Lib.hid (Kq.bx (Nat.ne_of_lt (Nat.lt_of_lt_of_le (Bx.lt BXz.out) zq.1)) (Bx.new BXz.out hb))
    have BXq := Lib.hid xq
    replace HW := Lib.hid (bthen HW.out hb2 HW.out.size); clear hb hb2 zq xq Kq rq
    refine wpOps_next rfl rfl (wp_assign 11 (.tmp 113) rfl rfl (.int .i64 18) rfl ?_)
    simp only [Act.put, List.setIfInBounds_toArray, List.set_cons_zero, List.set_cons_succ]
    show Exit.then _ _ _ _ _
    go_upto_region 9 with (fail)
    refine wp_region_seq (kss := [[], [(0, 114)], [(1, 115)]]) [(8, .pointer (some ⟨g1, 0, none⟩))] [Rw 8 (y), fun v _ => v = .int .i64 ((y).num.sign), fun v _ => v = .bool (true)] (by kernel_rfl) ⟨rfl, trivial⟩ ?_ ?_ ?_
    · exact ⟨fun _ _ _ h hb => Rw.new h hb, fun _ _ _ h _ => h, fun _ _ _ h _ => h, trivial⟩
    · refine ⟨?_, ?_, ?_, trivial⟩
      · exact fun a w hb he hd => ob_plain rfl (load_bx rfl he.1 (Bx.new BXy.out hb))
      · exact fun a w hb he hd => ob_plain rfl (gives_call1 _ _ _ rfl call_sign (sign_v hd.1))
      · exact fun a w hb he hd => ob_plain rfl (gives_eq_int ((y).num.sign) (0) .i64 _ _ _ _ rfl hd.1 rfl ⟨congrArg Value.bool (ty), Below.refl _ _⟩)
    intro vs w24 hb hR
    have e116 : vs 2 = .bool (true) := hR 2 (by decide)
    clear hR
    simp only [putsL, Nat.zero_add, Nat.reduceAdd, List.take_succ_cons, List.take_zero, Act.put, List.setIfInBounds_toArray, List.set_cons_zero, List.set_cons_succ]
    rw [e116]
    clear e116
    replace BXx := Lib.hid (Bx.new BXx.out hb)
    replace BXy := Lib.hid (Bx.new BXy.out hb)
    replace BXz := Lib.hid (Bx.new BXz.out hb)
    replace BXq := Lib.hid (Bx.new BXq.out hb)
    replace HW := Lib.hid (bthen HW.out hb HW.out.size); clear hb
    go_upto_region 10 with (fail)
    refine wp_region_seq (kss := [[], [(0, 117)], [(1, 118)], [(2, 119)], [(2, 119), (3, 120)], [(4, 121)]]) [(11, .int .i64 (18))] [fun v _ => v = .int .i64 (18), fun v _ => v = .bool (true), fun v _ => v = .bool (true), fun v _ => v = .bool (true), fun v _ => v = .bool (true), fun v _ => v = .bool (true)] (by kernel_rfl) ⟨rfl, trivial⟩ ?_ ?_ ?_
    · exact ⟨fun _ _ _ h _ => h, fun _ _ _ h _ => h, fun _ _ _ h _ => h, fun _ _ _ h _ => h, fun _ _ _ h _ => h, fun _ _ _ h _ => h, trivial⟩
    · refine ⟨?_, ?_, ?_, ?_, ?_, ?_, trivial⟩
      · exact fun a w hb he hd => ob_plain rfl (gives_move _ rfl ⟨he.1, Below.refl _ _⟩)
      · exact fun a w hb he hd => ob_plain rfl (gives_eq_int (18) (18) .i64 _ _ _ _ rfl hd.1 rfl ⟨congrArg Value.bool (by decide), Below.refl _ _⟩)
      · exact fun a w hb he hd => ob_plain rfl (gives_move _ rfl ⟨hd.1, Below.refl _ _⟩)
      · exact fun a w hb he hd => ob_on 119 rfl (by kernel_rfl) hd.1 (gives_call0 _ _ rfl call_awake (awake_v _))
      · exact fun a w hb he hd => ob_plain rfl (gives_pick true _ _ _ rfl hd.1 ⟨hd.2.1, Below.refl _ _⟩)
      · exact fun a w hb he hd => ob_plain rfl (gives_assign _ rfl ⟨hd.1, Below.refl _ _⟩)
    intro vs w25 hb hR
    have e6 : vs 5 = .bool (true) := hR 5 (by decide)
    clear hR
    simp only [putsL, Nat.zero_add, Nat.reduceAdd, List.take_succ_cons, List.take_zero, Act.put, List.setIfInBounds_toArray, List.set_cons_zero, List.set_cons_succ]
    rw [e6]
    clear e6
    replace BXx := Lib.hid (Bx.new BXx.out hb)
    replace BXy := Lib.hid (Bx.new BXy.out hb)
    replace BXz := Lib.hid (Bx.new BXz.out hb)
    replace BXq := Lib.hid (Bx.new BXq.out hb)
    replace HW := Lib.hid (bthen HW.out hb HW.out.size); clear hb
    go_wp2_with fail
    go_ret
    exact ⟨rfl, HW.out⟩
  · have ty : ((y).num.sign == 0) = false := by simp [Int.sign_eq_zero_iff_zero, Rat.num_eq_zero, hy]
    refine wp_region_joins (kss := [[], [], [(0, 109), (1, 110)], [(2, 111)], [(3, 108)], [(3, 108)], []]) [(7, .pointer (some ⟨g0, 0, none⟩)), (8, .pointer (some ⟨g1, 0, none⟩))] [Rw 8 (x), Rw 8 (y), Dv 16 (x / y), Dv 16 (x / y), Rv 16 (x / y), fun v _ => v = .int .i64 (0), Zb w21.heap.size] 7 (by kernel_rfl) ⟨rfl, rfl, trivial⟩ [false, false, false, false, false, false, true] ?_ ?_ ?_
    · exact ⟨fun _ _ _ h hb => Rw.new h hb, fun _ _ _ h hb => Rw.new h hb, fun _ _ _ h hb => Dv.new h hb, fun _ _ _ h hb => Dv.new h hb, fun _ _ _ h hb => Rv.new h hb, fun _ _ _ h _ => h, fun _ _ _ h hb => Zb.new h hb, trivial⟩
    · refine ⟨?_, ?_, ?_, ?_, ?_, ?_, ?_, trivial⟩
      · exact fun a w hb he hd => ob_plain rfl (load_bx rfl he.1 (Bx.new BXx.out hb))
      · exact fun a w hb he hd => ob_plain rfl (load_bx rfl he.2.1 (Bx.new BXy.out hb))
      · exact fun a w hb he hd => ob_plain rfl (gives_call2 _ _ _ _ rfl call_div (div_v hd.1 hd.2.1 (by omega) (hy)))
      · exact fun a w hb he hd => ob_plain rfl (gives_move _ rfl ⟨hd.1, Below.refl _ _⟩)
      · exact fun a w hb he hd => ob_plain rfl (ext_q rfl hd.1)
      · exact fun a w hb he hd => ob_plain rfl (ext_e rfl hd.1)
      · exact fun a w hb he hd => ⟨by simp [Region.wanted], alloc_rat rfl hb⟩
    intro vs w22 hb hR
    have rq : Rv 16 (x / y) (vs 4) w22 := hR 4 (by decide)
    obtain ⟨gBXq, kq, zq⟩ : Zb w21.heap.size (vs 6) w22 := hR 6 (by decide)
    have eq : vs 5 = .int .i64 0 := hR 5 (by decide)
    clear hR
    simp only [putsL, Nat.zero_add, Nat.reduceAdd, List.take_succ_cons, List.take_zero, Act.put, List.setIfInBounds_toArray, List.set_cons_zero, List.set_cons_succ]
    rw [kq, eq]
    clear kq eq
    show wpOps _ _ _ [7, 8] _ _
    refine wpOps_next rfl rfl (store_rat rfl rfl rfl rfl zq rq.rw ?_)
    intro w23 xq Kq
    have hb2 := Kq.below zq.1 hb
    replace BXx := Lib.hid (Kq.bx (Nat.ne_of_lt (Nat.lt_of_lt_of_le (Bx.lt BXx.out) zq.1)) (Bx.new BXx.out hb))
    replace BXy := Lib.hid (Kq.bx (Nat.ne_of_lt (Nat.lt_of_lt_of_le (Bx.lt BXy.out) zq.1)) (Bx.new BXy.out hb))
    replace BXz := Lib.hid (Kq.bx (Nat.ne_of_lt (Nat.lt_of_lt_of_le (Bx.lt BXz.out) zq.1)) (Bx.new BXz.out hb))
    have BXq := Lib.hid xq
    replace HW := Lib.hid (bthen HW.out hb2 HW.out.size); clear hb hb2 zq xq Kq rq
    refine wpOps_next rfl rfl (wp_assign 11 (.tmp 113) rfl rfl (.int .i64 0) rfl ?_)
    simp only [Act.put, List.setIfInBounds_toArray, List.set_cons_zero, List.set_cons_succ]
    show Exit.then _ _ _ _ _
    go_upto_region 9 with (fail)
    refine wp_region_seq (kss := [[], [(0, 114)], [(1, 115)]]) [(8, .pointer (some ⟨g1, 0, none⟩))] [Rw 8 (y), fun v _ => v = .int .i64 ((y).num.sign), fun v _ => v = .bool (false)] (by kernel_rfl) ⟨rfl, trivial⟩ ?_ ?_ ?_
    · exact ⟨fun _ _ _ h hb => Rw.new h hb, fun _ _ _ h _ => h, fun _ _ _ h _ => h, trivial⟩
    · refine ⟨?_, ?_, ?_, trivial⟩
      · exact fun a w hb he hd => ob_plain rfl (load_bx rfl he.1 (Bx.new BXy.out hb))
      · exact fun a w hb he hd => ob_plain rfl (gives_call1 _ _ _ rfl call_sign (sign_v hd.1))
      · exact fun a w hb he hd => ob_plain rfl (gives_eq_int ((y).num.sign) (0) .i64 _ _ _ _ rfl hd.1 rfl ⟨congrArg Value.bool (ty), Below.refl _ _⟩)
    intro vs w24 hb hR
    have e116 : vs 2 = .bool (false) := hR 2 (by decide)
    clear hR
    simp only [putsL, Nat.zero_add, Nat.reduceAdd, List.take_succ_cons, List.take_zero, Act.put, List.setIfInBounds_toArray, List.set_cons_zero, List.set_cons_succ]
    rw [e116]
    clear e116
    replace BXx := Lib.hid (Bx.new BXx.out hb)
    replace BXy := Lib.hid (Bx.new BXy.out hb)
    replace BXz := Lib.hid (Bx.new BXz.out hb)
    replace BXq := Lib.hid (Bx.new BXq.out hb)
    replace HW := Lib.hid (bthen HW.out hb HW.out.size); clear hb
    go_wp2_with fail
    refine wp_region_each (kss := [[], [(0, 122)], [(1, 123)], [(2, 124)], [(2, 124)], [(2, 124), (3, 125), (4, 126)], [(2, 124)], [(2, 124), (6, 128)], [(2, 124), (5, 127), (7, 129)], [(2, 124), (8, 130)], [(9, 131)], [(10, 132)], [(10, 132), (11, 133)], [(12, 134)]]) [(11, .int .i64 (0)), (10, .pointer (some ⟨gBXq, 0, none⟩)), (8, .pointer (some ⟨g1, 0, none⟩)), (7, .pointer (some ⟨g0, 0, none⟩))] [fun v _ => v = .int .i64 (0), fun v _ => v = .bool (true), fun v _ => v = .bool (true), Rw 16 (x / y), Rw 8 (y), Rv 24 ((x / y) * y), Rw 8 (x), Rv 8 (x), fun v _ => v = .bool (true), fun v _ => v = .bool (true), fun v _ => v = .bool (true), fun v _ => v = .bool (true), fun v _ => v = .bool (true), fun v _ => v = .bool (true)] (by kernel_rfl) (by kernel_rfl) ⟨rfl, rfl, rfl, rfl, trivial⟩ ?_ ?_ ?_
    · exact ⟨fun _ _ _ h _ => h, fun _ _ _ h _ => h, fun _ _ _ h _ => h, fun _ _ _ h hb => Rw.new h hb, fun _ _ _ h hb => Rw.new h hb, fun _ _ _ h hb => Rv.new h hb, fun _ _ _ h hb => Rw.new h hb, fun _ _ _ h hb => Rv.new h hb, fun _ _ _ h _ => h, fun _ _ _ h _ => h, fun _ _ _ h _ => h, fun _ _ _ h _ => h, fun _ _ _ h _ => h, fun _ _ _ h _ => h, trivial⟩
    · refine ⟨?_, ?_, ?_, ?_, ?_, ?_, ?_, ?_, ?_, ?_, ?_, ?_, ?_, ?_, trivial⟩
      · exact fun a w hb he hd => ob_plain rfl (gives_move _ rfl ⟨he.1, Below.refl _ _⟩)
      · exact fun a w hb he hd => ob_plain rfl (gives_eq_int (0) (0) .i64 _ _ _ _ rfl hd.1 rfl ⟨congrArg Value.bool (by decide), Below.refl _ _⟩)
      · exact fun a w hb he hd => ob_plain rfl (gives_move _ rfl ⟨hd.1, Below.refl _ _⟩)
      · exact fun a w hb he hd => ob_on 124 rfl (by kernel_rfl) hd.1 (load_bx rfl he.2.1 (Bx.new BXq.out hb))
      · exact fun a w hb he hd => ob_on 124 rfl (by kernel_rfl) hd.1 (load_bx rfl he.2.2.1 (Bx.new BXy.out hb))
      · exact fun a w hb he hd => ob_on 124 rfl (by kernel_rfl) hd.1 (gives_call2 _ _ _ _ rfl call_mul (mul_v hd.2.1 hd.2.2.1 (by omega)))
      · exact fun a w hb he hd => ob_on 124 rfl (by kernel_rfl) hd.1 (load_bx rfl he.2.2.2.1 (Bx.new BXx.out hb))
      · exact fun a w hb he hd => ob_on 124 rfl (by kernel_rfl) hd.1 (gives_call1 _ _ _ rfl call_norm (norm_v hd.2.1 (by omega)))
      · exact fun a w hb he hd => ob_on 124 rfl (by kernel_rfl) hd.1 (gives_call2 _ _ _ _ rfl call_same (same_y hd.2.1 hd.2.2.1 (by grind)))
      · exact fun a w hb he hd => ob_plain rfl (gives_pick true _ _ _ rfl hd.1 ⟨hd.2.1, Below.refl _ _⟩)
      · exact fun a w hb he hd => ob_plain rfl (gives_move _ rfl ⟨hd.1, Below.refl _ _⟩)
      · exact fun a w hb he hd => ob_on 132 rfl (by kernel_rfl) hd.1 (gives_call0 _ _ rfl call_awake (awake_v _))
      · exact fun a w hb he hd => ob_plain rfl (gives_pick true _ _ _ rfl hd.1 ⟨hd.2.1, Below.refl _ _⟩)
      · exact fun a w hb he hd => ob_plain rfl (gives_assign _ rfl ⟨hd.1, Below.refl _ _⟩)
    intro vs w25 hb hR
    have e6 : vs 13 = .bool (true) := hR 13 (by decide)
    clear hR
    simp only [putsL, Nat.zero_add, Nat.reduceAdd, List.take_succ_cons, List.take_zero, Act.put, List.setIfInBounds_toArray, List.set_cons_zero, List.set_cons_succ]
    rw [e6]
    clear e6
    replace BXx := Lib.hid (Bx.new BXx.out hb)
    replace BXy := Lib.hid (Bx.new BXy.out hb)
    replace BXz := Lib.hid (Bx.new BXz.out hb)
    replace BXq := Lib.hid (Bx.new BXq.out hb)
    replace HW := Lib.hid (bthen HW.out hb HW.out.size); clear hb
    go_wp2_with fail
    go_ret
    exact ⟨rfl, HW.out⟩
set_option maxRecDepth 100000 in
set_option maxHeartbeats 8000000 in
theorem fields_far0 {w : World} {s0 : Bool} {A0 B0 : Option Addr} {n0 c0 m0 d0 : Nat} {ds0 fs0 : List Nat} {s1 : Bool} {A1 B1 : Option Addr} {n1 c1 m1 d1 : Nat} {ds1 fs1 : List Nat} {s2 : Bool} {A2 B2 : Option Addr} {n2 c2 m2 d2 : Nat} {ds2 fs2 : List Nat} (h0 : Bg w A0 n0 c0 B0 m0 d0 ds0 fs0) (h1 : Bg w A1 n1 c1 B1 m1 d1 ds1 fs1) (h2 : Bg w A2 n2 c2 B2 m2 d2 ds2 fs2) (hf : 8 < n0 ∨ 8 < m0) :
    Calls Try.prog 4 #[.agg #[.bool s0, .slice A0 n0 c0, .slice B0 m0 d0], .agg #[.bool s1, .slice A1 n1 c1, .slice B1 m1 d1], .agg #[.bool s2, .slice A2 n2 c2, .slice B2 m2 d2]] w fun e w' => e = .returned (.bool true) ∧ Below w.heap.size w w' := by
  have l1 := h0.1.1.le; have l2 := h0.2.1.le
  have HF := Lib.hid hf; have L1 := Lib.hid l1; have L2 := Lib.hid l2; clear hf l1 l2
  have H0 := Lib.hid h0; have H1 := Lib.hid h1; have H2 := Lib.hid h2; clear h0 h1 h2
  go_enter Try.func4, Try.ntmps4
  go_upto_region 1 with (fail)
  obtain ⟨X0, hX0⟩ : ∃ X : Array Value, X = #[.bool s0, .slice A0 n0 c0, .slice B0 m0 d0] := ⟨_, rfl⟩
  obtain ⟨X1, hX1⟩ : ∃ X : Array Value, X = #[.bool s1, .slice A1 n1 c1, .slice B1 m1 d1] := ⟨_, rfl⟩
  obtain ⟨X2, hX2⟩ : ∃ X : Array Value, X = #[.bool s2, .slice A2 n2 c2, .slice B2 m2 d2] := ⟨_, rfl⟩
  have hW : Below w.heap.size w (((w.alloc (.cells X0 44)).alloc (.cells X1 44)).alloc (.cells X2 44)) := (((al w _).alloc (by simp) _).alloc (by simp; omega) _)
  have t0 : Blk (((w.alloc (.cells X0 44)).alloc (.cells X1 44)).alloc (.cells X2 44)) (w.heap.size) 44 X0 := by
    have := Blk.new w 44 X0
    have := ((this.alloc (.cells X1 44)).alloc (.cells X2 44))
    simpa using this
  have t1 : Blk (((w.alloc (.cells X0 44)).alloc (.cells X1 44)).alloc (.cells X2 44)) (w.heap.size + 1) 44 X1 := by
    have := Blk.new (w.alloc (.cells X0 44)) 44 X1
    have := (this.alloc (.cells X2 44))
    simpa using this
  have t2 : Blk (((w.alloc (.cells X0 44)).alloc (.cells X1 44)).alloc (.cells X2 44)) (w.heap.size + 2) 44 X2 := by
    have := Blk.new ((w.alloc (.cells X0 44)).alloc (.cells X1 44)) 44 X2
    have := this
    simpa using this
  rw [hX0, hX1, hX2] at hW t0 t1 t2
  clear hX0 hX1 hX2
  generalize ((w.alloc (.cells #[.bool s0, .slice A0 n0 c0, .slice B0 m0 d0] 44)).alloc (.cells #[.bool s1, .slice A1 n1 c1, .slice B1 m1 d1] 44)).alloc (.cells #[.bool s2, .slice A2 n2 c2, .slice B2 m2 d2] 44) = w0 at hW t0 t1 t2 ⊢
  clear X0 X1 X2
  replace H0 := Lib.hid (H0.out.new hW); replace H1 := Lib.hid (H1.out.new hW); replace H2 := Lib.hid (H2.out.new hW)
  have HW := Lib.hid hW; clear hW
  have T0 : Hid (TB w0 (w.heap.size) 44 (.bool s0) (.slice A0 n0 c0) (.slice B0 m0 d0)) := Lib.hid t0
  have T1 : Hid (TB w0 (w.heap.size + 1) 44 (.bool s1) (.slice A1 n1 c1) (.slice B1 m1 d1)) := Lib.hid t1
  have T2 : Hid (TB w0 (w.heap.size + 2) 44 (.bool s2) (.slice A2 n2 c2) (.slice B2 m2 d2)) := Lib.hid t2
  clear t0 t1 t2
  have q00 := T0.out.c0; have q01 := T0.out.c1; have q02 := T0.out.c2; have q10 := T1.out.c0; have q11 := T1.out.c1; have q12 := T1.out.c2; have q20 := T2.out.c0; have q21 := T2.out.c1; have q22 := T2.out.c2
  go_wp2_with fail
  refine (gr_yes L1.out L2.out HF.out).mono ?_
  rintro e w1 ⟨rfl, hb⟩
  replace H0 := Lib.hid (H0.out.new hb); replace H1 := Lib.hid (H1.out.new hb); replace H2 := Lib.hid (H2.out.new hb)
  replace T0 := Lib.hid (T0.out.new hb); replace T1 := Lib.hid (T1.out.new hb); replace T2 := Lib.hid (T2.out.new hb)
  replace HW := Lib.hid (bthen HW.out hb HW.out.size)
  clear hb q00 q01 q02 q10 q11 q12 q20 q21 q22
  have q00 := T0.out.c0; have q01 := T0.out.c1; have q02 := T0.out.c2; have q10 := T1.out.c0; have q11 := T1.out.c1; have q12 := T1.out.c2; have q20 := T2.out.c0; have q21 := T2.out.c1; have q22 := T2.out.c2
  go_wp2_with fail
  refine (qawake_any _).mono ?_
  rintro e v1 ⟨rfl, hb⟩
  replace HW := Lib.hid (bthen HW.out hb HW.out.size); clear hb
  go_wp2_with fail
  go_ret
  exact ⟨rfl, HW.out⟩
set_option maxRecDepth 100000 in
set_option maxHeartbeats 8000000 in
theorem fields_far1 {w : World} {s0 : Bool} {A0 B0 : Option Addr} {n0 c0 m0 d0 : Nat} {ds0 fs0 : List Nat} {s1 : Bool} {A1 B1 : Option Addr} {n1 c1 m1 d1 : Nat} {ds1 fs1 : List Nat} {s2 : Bool} {A2 B2 : Option Addr} {n2 c2 m2 d2 : Nat} {ds2 fs2 : List Nat} (h0 : Bg w A0 n0 c0 B0 m0 d0 ds0 fs0) (h1 : Bg w A1 n1 c1 B1 m1 d1 ds1 fs1) (h2 : Bg w A2 n2 c2 B2 m2 d2 ds2 fs2) (hn0 : n0 ≤ 8) (hm0 : m0 ≤ 8) (hf : 8 < n1 ∨ 8 < m1) :
    Calls Try.prog 4 #[.agg #[.bool s0, .slice A0 n0 c0, .slice B0 m0 d0], .agg #[.bool s1, .slice A1 n1 c1, .slice B1 m1 d1], .agg #[.bool s2, .slice A2 n2 c2, .slice B2 m2 d2]] w fun e w' => e = .returned (.bool true) ∧ Below w.heap.size w w' := by
  have l1 := h1.1.1.le; have l2 := h1.2.1.le
  have HF := Lib.hid hf; have L1 := Lib.hid l1; have L2 := Lib.hid l2; clear hf l1 l2
  have H0 := Lib.hid h0; have H1 := Lib.hid h1; have H2 := Lib.hid h2; clear h0 h1 h2
  go_enter Try.func4, Try.ntmps4
  go_upto_region 1 with (fail)
  obtain ⟨X0, hX0⟩ : ∃ X : Array Value, X = #[.bool s0, .slice A0 n0 c0, .slice B0 m0 d0] := ⟨_, rfl⟩
  obtain ⟨X1, hX1⟩ : ∃ X : Array Value, X = #[.bool s1, .slice A1 n1 c1, .slice B1 m1 d1] := ⟨_, rfl⟩
  obtain ⟨X2, hX2⟩ : ∃ X : Array Value, X = #[.bool s2, .slice A2 n2 c2, .slice B2 m2 d2] := ⟨_, rfl⟩
  have hW : Below w.heap.size w (((w.alloc (.cells X0 44)).alloc (.cells X1 44)).alloc (.cells X2 44)) := (((al w _).alloc (by simp) _).alloc (by simp; omega) _)
  have t0 : Blk (((w.alloc (.cells X0 44)).alloc (.cells X1 44)).alloc (.cells X2 44)) (w.heap.size) 44 X0 := by
    have := Blk.new w 44 X0
    have := ((this.alloc (.cells X1 44)).alloc (.cells X2 44))
    simpa using this
  have t1 : Blk (((w.alloc (.cells X0 44)).alloc (.cells X1 44)).alloc (.cells X2 44)) (w.heap.size + 1) 44 X1 := by
    have := Blk.new (w.alloc (.cells X0 44)) 44 X1
    have := (this.alloc (.cells X2 44))
    simpa using this
  have t2 : Blk (((w.alloc (.cells X0 44)).alloc (.cells X1 44)).alloc (.cells X2 44)) (w.heap.size + 2) 44 X2 := by
    have := Blk.new ((w.alloc (.cells X0 44)).alloc (.cells X1 44)) 44 X2
    have := this
    simpa using this
  rw [hX0, hX1, hX2] at hW t0 t1 t2
  clear hX0 hX1 hX2
  generalize ((w.alloc (.cells #[.bool s0, .slice A0 n0 c0, .slice B0 m0 d0] 44)).alloc (.cells #[.bool s1, .slice A1 n1 c1, .slice B1 m1 d1] 44)).alloc (.cells #[.bool s2, .slice A2 n2 c2, .slice B2 m2 d2] 44) = w0 at hW t0 t1 t2 ⊢
  clear X0 X1 X2
  replace H0 := Lib.hid (H0.out.new hW); replace H1 := Lib.hid (H1.out.new hW); replace H2 := Lib.hid (H2.out.new hW)
  have HW := Lib.hid hW; clear hW
  have T0 : Hid (TB w0 (w.heap.size) 44 (.bool s0) (.slice A0 n0 c0) (.slice B0 m0 d0)) := Lib.hid t0
  have T1 : Hid (TB w0 (w.heap.size + 1) 44 (.bool s1) (.slice A1 n1 c1) (.slice B1 m1 d1)) := Lib.hid t1
  have T2 : Hid (TB w0 (w.heap.size + 2) 44 (.bool s2) (.slice A2 n2 c2) (.slice B2 m2 d2)) := Lib.hid t2
  clear t0 t1 t2
  have q00 := T0.out.c0; have q01 := T0.out.c1; have q02 := T0.out.c2; have q10 := T1.out.c0; have q11 := T1.out.c1; have q12 := T1.out.c2; have q20 := T2.out.c0; have q21 := T2.out.c1; have q22 := T2.out.c2
  go_wp2_with fail
  refine (gr_no hn0 hm0).mono ?_
  rintro e w1 ⟨rfl, hb⟩
  replace H0 := Lib.hid (H0.out.new hb); replace H1 := Lib.hid (H1.out.new hb); replace H2 := Lib.hid (H2.out.new hb)
  replace T0 := Lib.hid (T0.out.new hb); replace T1 := Lib.hid (T1.out.new hb); replace T2 := Lib.hid (T2.out.new hb)
  replace HW := Lib.hid (bthen HW.out hb HW.out.size)
  clear hb q00 q01 q02 q10 q11 q12 q20 q21 q22
  have q00 := T0.out.c0; have q01 := T0.out.c1; have q02 := T0.out.c2; have q10 := T1.out.c0; have q11 := T1.out.c1; have q12 := T1.out.c2; have q20 := T2.out.c0; have q21 := T2.out.c1; have q22 := T2.out.c2
  go_wp2_with fail
  refine (gr_yes L1.out L2.out HF.out).mono ?_
  rintro e w2 ⟨rfl, hb⟩
  replace H0 := Lib.hid (H0.out.new hb); replace H1 := Lib.hid (H1.out.new hb); replace H2 := Lib.hid (H2.out.new hb)
  replace T0 := Lib.hid (T0.out.new hb); replace T1 := Lib.hid (T1.out.new hb); replace T2 := Lib.hid (T2.out.new hb)
  replace HW := Lib.hid (bthen HW.out hb HW.out.size)
  clear hb q00 q01 q02 q10 q11 q12 q20 q21 q22
  have q00 := T0.out.c0; have q01 := T0.out.c1; have q02 := T0.out.c2; have q10 := T1.out.c0; have q11 := T1.out.c1; have q12 := T1.out.c2; have q20 := T2.out.c0; have q21 := T2.out.c1; have q22 := T2.out.c2
  go_wp2_with fail
  refine (qawake_any _).mono ?_
  rintro e v1 ⟨rfl, hb⟩
  replace HW := Lib.hid (bthen HW.out hb HW.out.size); clear hb
  go_wp2_with fail
  go_ret
  exact ⟨rfl, HW.out⟩
set_option maxRecDepth 100000 in
set_option maxHeartbeats 8000000 in
theorem fields_far2 {w : World} {s0 : Bool} {A0 B0 : Option Addr} {n0 c0 m0 d0 : Nat} {ds0 fs0 : List Nat} {s1 : Bool} {A1 B1 : Option Addr} {n1 c1 m1 d1 : Nat} {ds1 fs1 : List Nat} {s2 : Bool} {A2 B2 : Option Addr} {n2 c2 m2 d2 : Nat} {ds2 fs2 : List Nat} (h0 : Bg w A0 n0 c0 B0 m0 d0 ds0 fs0) (h1 : Bg w A1 n1 c1 B1 m1 d1 ds1 fs1) (h2 : Bg w A2 n2 c2 B2 m2 d2 ds2 fs2) (hn0 : n0 ≤ 8) (hm0 : m0 ≤ 8) (hn1 : n1 ≤ 8) (hm1 : m1 ≤ 8) (hf : 8 < n2 ∨ 8 < m2) :
    Calls Try.prog 4 #[.agg #[.bool s0, .slice A0 n0 c0, .slice B0 m0 d0], .agg #[.bool s1, .slice A1 n1 c1, .slice B1 m1 d1], .agg #[.bool s2, .slice A2 n2 c2, .slice B2 m2 d2]] w fun e w' => e = .returned (.bool true) ∧ Below w.heap.size w w' := by
  have l1 := h2.1.1.le; have l2 := h2.2.1.le
  have HF := Lib.hid hf; have L1 := Lib.hid l1; have L2 := Lib.hid l2; clear hf l1 l2
  have H0 := Lib.hid h0; have H1 := Lib.hid h1; have H2 := Lib.hid h2; clear h0 h1 h2
  go_enter Try.func4, Try.ntmps4
  go_upto_region 1 with (fail)
  obtain ⟨X0, hX0⟩ : ∃ X : Array Value, X = #[.bool s0, .slice A0 n0 c0, .slice B0 m0 d0] := ⟨_, rfl⟩
  obtain ⟨X1, hX1⟩ : ∃ X : Array Value, X = #[.bool s1, .slice A1 n1 c1, .slice B1 m1 d1] := ⟨_, rfl⟩
  obtain ⟨X2, hX2⟩ : ∃ X : Array Value, X = #[.bool s2, .slice A2 n2 c2, .slice B2 m2 d2] := ⟨_, rfl⟩
  have hW : Below w.heap.size w (((w.alloc (.cells X0 44)).alloc (.cells X1 44)).alloc (.cells X2 44)) := (((al w _).alloc (by simp) _).alloc (by simp; omega) _)
  have t0 : Blk (((w.alloc (.cells X0 44)).alloc (.cells X1 44)).alloc (.cells X2 44)) (w.heap.size) 44 X0 := by
    have := Blk.new w 44 X0
    have := ((this.alloc (.cells X1 44)).alloc (.cells X2 44))
    simpa using this
  have t1 : Blk (((w.alloc (.cells X0 44)).alloc (.cells X1 44)).alloc (.cells X2 44)) (w.heap.size + 1) 44 X1 := by
    have := Blk.new (w.alloc (.cells X0 44)) 44 X1
    have := (this.alloc (.cells X2 44))
    simpa using this
  have t2 : Blk (((w.alloc (.cells X0 44)).alloc (.cells X1 44)).alloc (.cells X2 44)) (w.heap.size + 2) 44 X2 := by
    have := Blk.new ((w.alloc (.cells X0 44)).alloc (.cells X1 44)) 44 X2
    have := this
    simpa using this
  rw [hX0, hX1, hX2] at hW t0 t1 t2
  clear hX0 hX1 hX2
  generalize ((w.alloc (.cells #[.bool s0, .slice A0 n0 c0, .slice B0 m0 d0] 44)).alloc (.cells #[.bool s1, .slice A1 n1 c1, .slice B1 m1 d1] 44)).alloc (.cells #[.bool s2, .slice A2 n2 c2, .slice B2 m2 d2] 44) = w0 at hW t0 t1 t2 ⊢
  clear X0 X1 X2
  replace H0 := Lib.hid (H0.out.new hW); replace H1 := Lib.hid (H1.out.new hW); replace H2 := Lib.hid (H2.out.new hW)
  have HW := Lib.hid hW; clear hW
  have T0 : Hid (TB w0 (w.heap.size) 44 (.bool s0) (.slice A0 n0 c0) (.slice B0 m0 d0)) := Lib.hid t0
  have T1 : Hid (TB w0 (w.heap.size + 1) 44 (.bool s1) (.slice A1 n1 c1) (.slice B1 m1 d1)) := Lib.hid t1
  have T2 : Hid (TB w0 (w.heap.size + 2) 44 (.bool s2) (.slice A2 n2 c2) (.slice B2 m2 d2)) := Lib.hid t2
  clear t0 t1 t2
  have q00 := T0.out.c0; have q01 := T0.out.c1; have q02 := T0.out.c2; have q10 := T1.out.c0; have q11 := T1.out.c1; have q12 := T1.out.c2; have q20 := T2.out.c0; have q21 := T2.out.c1; have q22 := T2.out.c2
  go_wp2_with fail
  refine (gr_no hn0 hm0).mono ?_
  rintro e w1 ⟨rfl, hb⟩
  replace H0 := Lib.hid (H0.out.new hb); replace H1 := Lib.hid (H1.out.new hb); replace H2 := Lib.hid (H2.out.new hb)
  replace T0 := Lib.hid (T0.out.new hb); replace T1 := Lib.hid (T1.out.new hb); replace T2 := Lib.hid (T2.out.new hb)
  replace HW := Lib.hid (bthen HW.out hb HW.out.size)
  clear hb q00 q01 q02 q10 q11 q12 q20 q21 q22
  have q00 := T0.out.c0; have q01 := T0.out.c1; have q02 := T0.out.c2; have q10 := T1.out.c0; have q11 := T1.out.c1; have q12 := T1.out.c2; have q20 := T2.out.c0; have q21 := T2.out.c1; have q22 := T2.out.c2
  go_wp2_with fail
  refine (gr_no hn1 hm1).mono ?_
  rintro e w2 ⟨rfl, hb⟩
  replace H0 := Lib.hid (H0.out.new hb); replace H1 := Lib.hid (H1.out.new hb); replace H2 := Lib.hid (H2.out.new hb)
  replace T0 := Lib.hid (T0.out.new hb); replace T1 := Lib.hid (T1.out.new hb); replace T2 := Lib.hid (T2.out.new hb)
  replace HW := Lib.hid (bthen HW.out hb HW.out.size)
  clear hb q00 q01 q02 q10 q11 q12 q20 q21 q22
  have q00 := T0.out.c0; have q01 := T0.out.c1; have q02 := T0.out.c2; have q10 := T1.out.c0; have q11 := T1.out.c1; have q12 := T1.out.c2; have q20 := T2.out.c0; have q21 := T2.out.c1; have q22 := T2.out.c2
  go_wp2_with fail
  refine (gr_yes L1.out L2.out HF.out).mono ?_
  rintro e w3 ⟨rfl, hb⟩
  replace H0 := Lib.hid (H0.out.new hb); replace H1 := Lib.hid (H1.out.new hb); replace H2 := Lib.hid (H2.out.new hb)
  replace T0 := Lib.hid (T0.out.new hb); replace T1 := Lib.hid (T1.out.new hb); replace T2 := Lib.hid (T2.out.new hb)
  replace HW := Lib.hid (bthen HW.out hb HW.out.size)
  clear hb q00 q01 q02 q10 q11 q12 q20 q21 q22
  have q00 := T0.out.c0; have q01 := T0.out.c1; have q02 := T0.out.c2; have q10 := T1.out.c0; have q11 := T1.out.c1; have q12 := T1.out.c2; have q20 := T2.out.c0; have q21 := T2.out.c1; have q22 := T2.out.c2
  go_wp2_with fail
  refine (qawake_any _).mono ?_
  rintro e v1 ⟨rfl, hb⟩
  replace HW := Lib.hid (bthen HW.out hb HW.out.size); clear hb
  go_wp2_with fail
  go_ret
  exact ⟨rfl, HW.out⟩
theorem ratFields_walk {s0 : Bool} {A0 B0 : Option Addr} {n0 c0 m0 d0 : Nat} {ds0 fs0 : List Nat} {s1 : Bool} {A1 B1 : Option Addr} {n1 c1 m1 d1 : Nat} {ds1 fs1 : List Nat} {s2 : Bool} {A2 B2 : Option Addr} {n2 c2 m2 d2 : Nat} {ds2 fs2 : List Nat} (w : World) (h0 : Bg w A0 n0 c0 B0 m0 d0 ds0 fs0) (h1 : Bg w A1 n1 c1 B1 m1 d1 ds1 fs1) (h2 : Bg w A2 n2 c2 B2 m2 d2 ds2 fs2) :
    Calls Try.prog 4 #[.agg #[.bool s0, .slice A0 n0 c0, .slice B0 m0 d0], .agg #[.bool s1, .slice A1 n1 c1, .slice B1 m1 d1], .agg #[.bool s2, .slice A2 n2 c2, .slice B2 m2 d2]] w fun e w' => e = .returned (.bool true) ∧ Below w.heap.size w w' := by
  by_cases f0 : 8 < n0 ∨ 8 < m0
  · exact fields_far0 h0 h1 h2  f0
  by_cases f1 : 8 < n1 ∨ 8 < m1
  · exact fields_far1 h0 h1 h2 (by omega) (by omega) f1
  by_cases f2 : 8 < n2 ∨ 8 < m2
  · exact fields_far2 h0 h1 h2 (by omega) (by omega) (by omega) (by omega) f2
  exact fields_near h0 h1 h2 (by omega) (by omega) (by omega) (by omega) (by omega) (by omega)
end Go.Proofs.Ytifnbpkcnkfanaa
