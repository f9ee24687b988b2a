/-
  The walk of RatCounts.
-/
import Derived.Test.YtifnbpkcnkfanaaQCnt
namespace Go.Proofs.Ytifnbpkcnkfanaa
open Go.RowKit
set_option linter.unusedSimpArgs false

set_option maxRecDepth 100000 in
set_option maxHeartbeats 8000000 in
theorem counts_far (a b c d : Int) (w : World) (h : winB a b c d = false) : Calls Try.prog 7 #[.agg #[.int .i64 a, .int .i64 b, .int .i64 c, .int .i64 d]] w fun e w' => e = .returned (.bool true) ∧ Below w.heap.size w w' := by
  have HN := Lib.hid h; clear h
  have HA : Hid (A4 (w.alloc (.cells #[.int .i64 a, .int .i64 b, .int .i64 c, .int .i64 d] 22)) w.heap.size a b c d) := Lib.hid (Blk.new w _ _)
  have c0 := HA.out.c0; have c1 := HA.out.c1; have c2 := HA.out.c2; have c3 := HA.out.c3
  go_enter Try.func7, Try.ntmps7
  go_wp2_with fail
  refine within_any.mono ?_
  rintro e w1 ⟨rfl, hb⟩
  rw [HN.out]
  have HW := Lib.hid (bthen (al w _) hb (al w _).size); clear hb c0 c1 c2 c3
  go_wp2_with fail
  refine (qawake_any _).mono ?_
  rintro e w2 ⟨rfl, hb⟩
  replace HW := Lib.hid (bthen HW.out hb HW.out.size); clear hb
  go_wp2_with fail
  go_ret
  exact ⟨rfl, HW.out⟩

set_option maxRecDepth 100000 in
set_option maxHeartbeats 8000000 in
theorem counts_z (a b c d : Int) (w : World) (h : winB a b c d = true) (HY : Hid (((c : Int) : Rat) / ((den1 d : Int) : Rat) = 0)) : Calls Try.prog 7 #[.agg #[.int .i64 a, .int .i64 b, .int .i64 c, .int .i64 d]] w fun e w' => e = .returned (.bool true) ∧ Below w.heap.size w w' := by
  have hwin := of_decide_eq_true h
  obtain ⟨⟨wa1, wa2⟩, ⟨wb1, wb2⟩, ⟨wc1, wc2⟩, ⟨wd1, wd2⟩⟩ := hwin
  have HN := Lib.hid h; clear h
  have hx := sm_frac a b ⟨wa1, wa2⟩ ⟨wb1, wb2⟩
  have hy := sm_frac c d ⟨wc1, wc2⟩ ⟨wd1, wd2⟩
  have CX := Lib.hid (fun v v' (hv : v = .int .i64 a) (hv' : v' = .int .i64 b) W => of_v a b ⟨wa1, wa2⟩ ⟨wb1, wb2⟩ v v' hv hv' W)
  have CY := Lib.hid (fun v v' (hv : v = .int .i64 c) (hv' : v' = .int .i64 d) W => of_v c d ⟨wc1, wc2⟩ ⟨wd1, wd2⟩ v v' hv hv' W)
  generalize ((a : Int) : Rat) / ((den1 b : Int) : Rat) = x at hx CX
  generalize ((c : Int) : Rat) / ((den1 d : Int) : Rat) = y at hy CY HY
  have hry := hy.rng
  obtain ⟨⟨yn1, yn2⟩, ⟨yd1, yd2⟩, yd3⟩ := hry
  have SX := Lib.hid hx; have SY := Lib.hid hy; clear hx hy
  clear wa1 wa2 wb1 wb2 wc1 wc2 wd1 wd2
  have HA : Hid (A4 (w.alloc (.cells #[.int .i64 a, .int .i64 b, .int .i64 c, .int .i64 d] 22)) w.heap.size a b c d) := Lib.hid (Blk.new w _ _)
  have c0 := HA.out.c0; have c1 := HA.out.c1; have c2 := HA.out.c2; have c3 := HA.out.c3
  go_enter Try.func7, Try.ntmps7
  go_wp2_with fail
  refine within_any.mono ?_
  rintro e w1 ⟨rfl, hb⟩
  rw [HN.out]
  replace HA := Lib.hid (HA.out.new hb)
  have HW := Lib.hid (bthen (al w _) hb (al w _).size); clear hb c0 c1 c2 c3
  go_upto_region 3 with (fail)
  refine wp_region_joins (kss := [[], [(0, 15)], [], [(2, 17)], [(1, 16), (3, 18)], [(4, 19)], [(5, 14)], [(5, 14)], [], []]) [(1, .pointer (some ⟨w.heap.size, 0, none⟩))] [fun v _ => v = .pointer (some ⟨w.heap.size, 0, none⟩), fun v _ => v = .int .i64 (a), fun v _ => v = .pointer (some ⟨w.heap.size, 1, none⟩), fun v _ => v = .int .i64 (b), OfV (x), OfV (x), Rv 2 (x), fun v _ => v = QL (x), Zb w1.heap.size, Zq w1.heap.size] 10 (by kernel_rfl) ⟨rfl, trivial⟩ [false, false, false, false, false, false, false, false, true, false] ?_ ?_ ?_
  · exact ⟨fun _ _ _ h _ => h, fun _ _ _ h _ => h, fun _ _ _ h _ => h, fun _ _ _ h _ => h, fun _ _ _ h hb => OfV.new h hb, fun _ _ _ h hb => OfV.new h hb, fun _ _ _ h hb => Rv.new h hb, fun _ _ _ h _ => h, fun _ _ _ h hb => Zb.new h hb, fun _ _ _ h hb => Zq.new h hb, trivial⟩
  · refine ⟨?_, ?_, ?_, ?_, ?_, ?_, ?_, ?_, ?_, ?_, trivial⟩
    · exact fun _ _ hb he hd => ob_plain rfl (idx_0 rfl he.1)
    · exact fun _ _ hb he hd => ob_plain rfl (load_i64 rfl hd.1 (A4.new HA.out hb).c0)
    · exact fun _ _ hb he hd => ob_plain rfl (idx_1 rfl he.1)
    · exact fun _ _ hb he hd => ob_plain rfl (load_i64 rfl hd.1 (A4.new HA.out hb).c1)
    · exact fun _ _ hb he hd => ob_plain rfl (gives_call2 _ _ _ _ rfl call_lof (CX.out _ _ hd.1 hd.2.1 _))
    · exact fun _ _ hb he hd => ob_plain rfl (gives_move _ rfl ⟨hd.1, Below.refl _ _⟩)
    · exact fun _ _ hb he hd => ob_plain rfl (ext_o0 rfl hd.1)
    · exact fun _ _ hb he hd => ob_plain rfl (ext_o1 rfl hd.1)
    · exact fun _ _ hb he hd => ⟨by simp [Region.wanted], alloc_rat rfl hb⟩
    · exact fun _ _ hb he hd => ob_plain rfl (alloc_q rfl hb)
  intro vs w2 hb hR
  have rv : Rv 2 (x) (vs 6) w2 := hR 6 (by decide)
  have e1 : vs 7 = QL (x) := hR 7 (by decide)
  obtain ⟨g3, k3, z3⟩ : Zb w1.heap.size (vs 8) w2 := hR 8 (by decide)
  obtain ⟨g4, k4, z4a, z4⟩ : Zq w1.heap.size (vs 9) w2 := hR 9 (by decide)
  clear hR
  simp only [putsL, Nat.zero_add, Nat.reduceAdd, List.take_succ_cons, List.take_zero, Act.put, List.setIfInBounds_toArray, List.set_cons_zero, List.set_cons_succ]
  rw [e1, k3, k4]
  clear e1 k3 k4
  generalize vs 6 = u6 at *
  show wpOps _ _ _ [10, 11] _ _
  refine wpOps_next rfl rfl (store_rv rfl rfl rfl rfl z3 rv ?_)
  rintro w3 ⟨y1, y2, y3, rfl, hT⟩ rv1 hG hB
  have hne : g4 ≠ g3 := Blk.ne_ (GB.blk z4) z3.2 (by decide)
  have hQ := hG _ _ _ _ hne z4
  have hb4 := hB _ _ z3.1 hb
  refine wpOps_next rfl rfl (store_q rfl rfl rfl rfl hQ ?_)
  show Exit.then _ _ _ _ _
  obtain ⟨hB3, hQ4, hb5⟩ := pair_world rv1 hT hQ hne hb4 z4a
  clear rv1 hT hQ hne hb4 z3 z4 z4a rv hG hB hb
  generalize (w3.setCell ⟨g4, 0, none⟩ (.int .i64 x.num)).setCell ⟨g4, 1, none⟩ (.int .i64 (x.den : Int)) = w4 at hB3 hQ4 hb5 ⊢
  have Bx_ := Lib.hid hB3; have Qx_ := Lib.hid hQ4
  replace HA := Lib.hid (HA.out.new hb5); replace HW := Lib.hid (bthen HW.out hb5 HW.out.size)
  clear hB3 hQ4 hb5
  go_upto_region 4 with (fail)
  refine wp_region_joins (kss := [[], [(0, 23)], [], [(2, 25)], [(1, 24), (3, 26)], [(4, 27)], [(5, 22)], [(5, 22)], [], []]) [(1, .pointer (some ⟨w.heap.size, 0, none⟩))] [fun v _ => v = .pointer (some ⟨w.heap.size, 2, none⟩), fun v _ => v = .int .i64 (c), fun v _ => v = .pointer (some ⟨w.heap.size, 3, none⟩), fun v _ => v = .int .i64 (d), OfV (y), OfV (y), Rv 2 (y), fun v _ => v = QL (y), Zb w4.heap.size, Zq w4.heap.size] 10 (by kernel_rfl) ⟨rfl, trivial⟩ [false, false, false, false, false, false, false, false, true, false] ?_ ?_ ?_
  · exact ⟨fun _ _ _ h _ => h, fun _ _ _ h _ => h, fun _ _ _ h _ => h, fun _ _ _ h _ => h, fun _ _ _ h hb => OfV.new h hb, fun _ _ _ h hb => OfV.new h hb, fun _ _ _ h hb => Rv.new h hb, fun _ _ _ h _ => h, fun _ _ _ h hb => Zb.new h hb, fun _ _ _ h hb => Zq.new h hb, trivial⟩
  · refine ⟨?_, ?_, ?_, ?_, ?_, ?_, ?_, ?_, ?_, ?_, trivial⟩
    · exact fun _ _ hb he hd => ob_plain rfl (idx_2 rfl he.1)
    · exact fun _ _ hb he hd => ob_plain rfl (load_i64 rfl hd.1 (A4.new HA.out hb).c2)
    · exact fun _ _ hb he hd => ob_plain rfl (idx_3 rfl he.1)
    · exact fun _ _ hb he hd => ob_plain rfl (load_i64 rfl hd.1 (A4.new HA.out hb).c3)
    · exact fun _ _ hb he hd => ob_plain rfl (gives_call2 _ _ _ _ rfl call_lof (CY.out _ _ hd.1 hd.2.1 _))
    · exact fun _ _ hb he hd => ob_plain rfl (gives_move _ rfl ⟨hd.1, Below.refl _ _⟩)
    · exact fun _ _ hb he hd => ob_plain rfl (ext_o0 rfl hd.1)
    · exact fun _ _ hb he hd => ob_plain rfl (ext_o1 rfl hd.1)
    · exact fun _ _ hb he hd => ⟨by simp [Region.wanted], alloc_rat rfl hb⟩
    · exact fun _ _ hb he hd => ob_plain rfl (alloc_q rfl hb)
  intro vs w5 hb hR
  have rv : Rv 2 (y) (vs 6) w5 := hR 6 (by decide)
  have e1 : vs 7 = QL (y) := hR 7 (by decide)
  obtain ⟨g5, k3, z3⟩ : Zb w4.heap.size (vs 8) w5 := hR 8 (by decide)
  obtain ⟨g6, k4, z4a, z4⟩ : Zq w4.heap.size (vs 9) w5 := hR 9 (by decide)
  clear hR
  simp only [putsL, Nat.zero_add, Nat.reduceAdd, List.take_succ_cons, List.take_zero, Act.put, List.setIfInBounds_toArray, List.set_cons_zero, List.set_cons_succ]
  rw [e1, k3, k4]
  clear e1 k3 k4
  generalize vs 6 = u6 at *
  show wpOps _ _ _ [10, 11] _ _
  refine wpOps_next rfl rfl (store_rv rfl rfl rfl rfl z3 rv ?_)
  rintro w6 ⟨y1, y2, y3, rfl, hT⟩ rv1 hG hB
  have hne : g6 ≠ g5 := Blk.ne_ (GB.blk z4) z3.2 (by decide)
  have hQ := hG _ _ _ _ hne z4
  have hb4 := hB _ _ z3.1 hb
  refine wpOps_next rfl rfl (store_q rfl rfl rfl rfl hQ ?_)
  show Exit.then _ _ _ _ _
  obtain ⟨hB3, hQ4, hb5⟩ := pair_world rv1 hT hQ hne hb4 z4a
  clear rv1 hT hQ hne hb4 z3 z4 z4a rv hG hB hb
  generalize (w6.setCell ⟨g6, 0, none⟩ (.int .i64 y.num)).setCell ⟨g6, 1, none⟩ (.int .i64 (y.den : Int)) = w7 at hB3 hQ4 hb5 ⊢
  have By_ := Lib.hid hB3; have Qy_ := Lib.hid hQ4
  replace HA := Lib.hid (HA.out.new hb5); replace HW := Lib.hid (bthen HW.out hb5 HW.out.size)
  replace Bx_ := Lib.hid (Bx_.out.new hb5)
  replace Qx_ := Lib.hid (Qx_.out.new hb5)
  clear hB3 hQ4 hb5
  go_upto_region 5 with (fail)
  refine wp_region_joins (kss := [[], [], [(0, 31), (1, 32)], [(2, 33)], [(3, 30)], [(3, 30)], []]) [(3, .pointer (some ⟨g3, 0, none⟩)), (5, .pointer (some ⟨g5, 0, none⟩))] [Rv 2 (x), Rv 2 (y), fun v _ => v = .tuple #[.agg #[.bool false, .slice none 0 0, .slice none 0 0], .int .i64 18], fun v _ => v = .tuple #[.agg #[.bool false, .slice none 0 0, .slice none 0 0], .int .i64 18], fun v _ => v = .agg #[.bool false, .slice none 0 0, .slice none 0 0], fun v _ => v = .int .i64 (18), Zb w7.heap.size] 7 (by kernel_rfl) ⟨rfl, rfl, trivial⟩ [false, false, false, false, false, false, true] ?_ ?_ ?_
  · exact ⟨fun _ _ _ h hb => Rv.new h hb, fun _ _ _ h hb => Rv.new h hb, fun _ _ _ h _ => h, fun _ _ _ h _ => h, fun _ _ _ h _ => h, fun _ _ _ h _ => h, fun _ _ _ h hb => Zb.new h hb, trivial⟩
  · refine ⟨?_, ?_, ?_, ?_, ?_, ?_, ?_, trivial⟩
    · exact fun _ _ hb he hd => ob_plain rfl (load_bn rfl he.1 (Bn.new Bx_.out hb))
    · exact fun _ _ hb he hd => ob_plain rfl (load_bn rfl he.2.1 (Bn.new By_.out hb))
    · exact fun _ _ hb he hd => ob_plain rfl (gives_call2 _ _ _ _ rfl call_div (div_0 hd.1.rw hd.2.1.rw (by omega) (HY.out)))
    · exact fun _ _ hb he hd => ob_plain rfl (gives_move _ rfl ⟨hd.1, Below.refl _ _⟩)
    · exact fun _ _ hb he hd => ob_plain rfl (ext_z0 rfl hd.1)
    · exact fun _ _ hb he hd => ob_plain rfl (ext_ze rfl hd.1)
    · exact fun _ _ hb he hd => ⟨by simp [Region.wanted], alloc_rat rfl hb⟩
  intro vs w9 hb hR
  have e1 : vs 4 = .agg #[.bool false, .slice none 0 0, .slice none 0 0] := hR 4 (by decide)
  have e5 : vs 5 = .int .i64 18 := hR 5 (by decide)
  obtain ⟨g7, k7, z7⟩ : Zb w7.heap.size (vs 6) w9 := hR 6 (by decide)
  clear hR
  simp only [putsL, Nat.zero_add, Nat.reduceAdd, List.take_succ_cons, List.take_zero, Act.put, List.setIfInBounds_toArray, List.set_cons_zero, List.set_cons_succ]
  rw [e1, e5, k7]
  clear e1 e5 k7
  show wpOps _ _ _ [7, 8] _ _
  refine wpOps_next rfl rfl (store_zero rfl rfl rfl rfl z7 ?_)
  intro w10 hT hB
  have hb5 := hB _ _ z7.1 hb
  refine wpOps_next rfl rfl (wp_assign 8 (.tmp 35) rfl rfl (.int .i64 18) rfl ?_)
  simp only [Act.put, List.setIfInBounds_toArray, List.set_cons_zero, List.set_cons_succ]
  show Exit.then _ _ _ _ _
  replace HA := Lib.hid (HA.out.new hb5); replace HW := Lib.hid (bthen HW.out hb5 HW.out.size)
  replace Bx_ := Lib.hid (Bx_.out.new hb5); replace By_ := Lib.hid (By_.out.new hb5); replace Qx_ := Lib.hid (Qx_.out.new hb5); replace Qy_ := Lib.hid (Qy_.out.new hb5)
  have hy0 : y.num = 0 := by rw [HY.out]; rfl
  have t6 : (y.num == 0) = true := by simp [hy0]
  clear hy0
  have q0 : w10.cell? ⟨g6, 0, none⟩ = some (.int .i64 y.num) := GB.c0 Qy_.out
  have lq : g6 < w10.heap.size := Qb.lt Qy_.out
  have a0 := hT.c0; have a1 := hT.c1; have a2 := hT.c2; have la := hT.lt
  clear hT hB hb hb5 z7
  go_upto_region 11 with (fail)
  clear a0 a1 a2 la q0 lq t6
  refine wp_region_joins (kss := [[], [(0, 65)], [(1, 66)], [], [(3, 68)], [(2, 67), (4, 69)], []]) [(6, .pointer (some ⟨g6, 0, none⟩))] [fun v _ => v = .pointer (some ⟨g6, 0, none⟩), fun v _ => v = .int .i64 (y.num), fun v _ => v = .int .i64 (-(y.num)), fun v _ => v = .pointer (some ⟨g6, 1, none⟩), fun v _ => v = .int .i64 ((y.den : Int)), fun v _ => v = QL (negq y), Zq w10.heap.size] 7 (by kernel_rfl) ⟨rfl, trivial⟩ [false, false, false, false, false, false, false] ?_ ?_ ?_
  · exact ⟨fun _ _ _ h _ => h, fun _ _ _ h _ => h, fun _ _ _ h _ => h, fun _ _ _ h _ => h, fun _ _ _ h _ => h, fun _ _ _ h _ => h, fun _ _ _ h hb => Zq.new h hb, trivial⟩
  · refine ⟨?_, ?_, ?_, ?_, ?_, ?_, ?_, trivial⟩
    · exact fun _ _ hb he hd => ob_plain rfl (fld_q0 rfl he.1)
    · exact fun _ _ hb he hd => ob_plain rfl (load_i64 rfl hd.1 (GB.c0 (Qb.new Qy_.out hb)))
    · exact fun _ _ hb he hd => ob_plain rfl (gives_neg_i64 (y.num) _ _ rfl hd.1 (⟨yn1, yn2⟩) ⟨rfl, Below.refl _ _⟩)
    · exact fun _ _ hb he hd => ob_plain rfl (fld_q1 rfl he.1)
    · exact fun _ _ hb he hd => ob_plain rfl (load_i64 rfl hd.1 (GB.c1 (Qb.new Qy_.out hb)))
    · exact fun _ _ hb he hd => ob_plain rfl (gives_call2 _ _ _ _ rfl call_low (low_v (-(y.num)) ((y.den : Int)) (by omega) (by omega) (by omega) (by omega) (yd3) _ _ hd.1 hd.2.1 _))
    · exact fun _ _ hb he hd => ob_plain rfl (alloc_q rfl hb)
  intro vs w12 hb hR
  have e1 : vs 5 = QL (negq y) := hR 5 (by decide)
  obtain ⟨g9, k4, z4a, z4⟩ : Zq w10.heap.size (vs 6) w12 := hR 6 (by decide)
  clear hR
  simp only [putsL, Nat.zero_add, Nat.reduceAdd, List.take_succ_cons, List.take_zero, Act.put, List.setIfInBounds_toArray, List.set_cons_zero, List.set_cons_succ]
  rw [e1, k4]
  clear e1 k4
  show wpOps _ _ _ [7] _ _
  refine wpOps_next rfl rfl (store_q rfl rfl rfl rfl z4 ?_)
  show Exit.then _ _ _ _ _
  obtain ⟨hQ9, hb5⟩ := q_world (x := negq y) z4 hb z4a
  generalize (w12.setCell ⟨g9, 0, none⟩ (.int .i64 (negq y).num)).setCell ⟨g9, 1, none⟩ (.int .i64 ((negq y).den : Int)) = w13 at hQ9 hb5 ⊢
  rw [negq_eq] at hQ9
  have Qn_ := Lib.hid hQ9
  replace HW := Lib.hid (bthen HW.out hb5 HW.out.size)
  replace Bx_ := Lib.hid (Bx_.out.new hb5); replace By_ := Lib.hid (By_.out.new hb5); replace Qx_ := Lib.hid (Qx_.out.new hb5); replace Qy_ := Lib.hid (Qy_.out.new hb5)
  clear hQ9 hb5 z4 z4a hb
  have SN := Lib.hid SY.out.neg
  go_upto_region 12 with (fail)
  refine wp_region_each (kss := [[], [], [(0, 71), (1, 72)], [], [], [(3, 74), (4, 75)], [(2, 73), (5, 76)], [(6, 77)], [(7, 78)], [(7, 78)], [(7, 78), (8, 79), (9, 80)], [(7, 78)], [(7, 78)], [(7, 78), (11, 82), (12, 83)], [(7, 78), (10, 81), (13, 84)], [(7, 78), (14, 85)], [(15, 86)], [(16, 87)], [(16, 87)], [(16, 87), (17, 88), (18, 89)], [(16, 87)], [(16, 87)], [(16, 87), (20, 91), (21, 92)], [(16, 87), (19, 90), (22, 93)], [(16, 87), (23, 94)], [(24, 95)], [(25, 96)], [(25, 96), (26, 97)], [(25, 96)], [(25, 96), (27, 98), (28, 99)], [(25, 96), (29, 100)], [(30, 101)], [(31, 102)], [(31, 102)], [(31, 102), (32, 103), (33, 104)], [(31, 102)], [(31, 102)], [(31, 102), (35, 106), (36, 107)], [(31, 102), (34, 105), (37, 108)], [(31, 102), (38, 109)], [(39, 110)], [(40, 111)], [(40, 111), (41, 112)], [(40, 111)], [(40, 111)], [(40, 111), (43, 114), (44, 115)], [(40, 111), (42, 113), (45, 116)], [(40, 111), (46, 117)], [(47, 118)], [(48, 119)], [(48, 119), (49, 120)], [(50, 121)]]) [(3, .pointer (some ⟨g3, 0, none⟩)), (5, .pointer (some ⟨g5, 0, none⟩)), (4, .pointer (some ⟨g4, 0, none⟩)), (6, .pointer (some ⟨g6, 0, none⟩)), (9, .pointer (some ⟨g9, 0, none⟩))] [Rv 2 (x), Rv 2 (y), Rv 5 (x + y), fun v _ => v = QL (x), fun v _ => v = QL (y), fun v _ => v = QL (x + y), fun v _ => v = .bool (true), fun v _ => v = .bool (true), Rv 2 (x), Rv 2 (y), Rv 5 (x - y), fun v _ => v = QL (x), fun v _ => v = QL (-y), fun v _ => v = QL (x + (-y)), fun v _ => v = .bool (true), fun v _ => v = .bool (true), fun v _ => v = .bool (true), Rv 2 (x), Rv 2 (y), Rv 4 (x * y), fun v _ => v = QL (x), fun v _ => v = QL (y), fun v _ => v = QL (x * y), fun v _ => v = .bool (true), fun v _ => v = .bool (true), fun v _ => v = .bool (true), Rv 2 (y), Rv 2 (-y), fun v _ => v = QL (-y), fun v _ => v = .bool (true), fun v _ => v = .bool (true), fun v _ => v = .bool (true), Rv 2 (x), Rv 2 (y), fun v _ => v = .int .i64 (rcq (x) (y)), fun v _ => v = QL (x), fun v _ => v = QL (y), fun v _ => v = .int .i64 (rcq x y), fun v _ => v = .bool (true), fun v _ => v = .bool (true), fun v _ => v = .bool (true), Rv 2 (x), fun v _ => v = .int .i64 ((x).num.sign), fun v _ => v = QL (x), fun v _ => v = QL (zeroq), fun v _ => v = .int .i64 (rcq x zeroq), fun v _ => v = .bool (true), fun v _ => v = .bool (true), fun v _ => v = .bool (true), fun v _ => v = .bool (true), fun v _ => v = .bool (true), fun v _ => v = .bool (true)] (by kernel_rfl) (by kernel_rfl) ⟨rfl, rfl, rfl, rfl, rfl, trivial⟩ ?_ ?_ ?_
  · exact ⟨fun _ _ _ h hb => Rv.new h hb, fun _ _ _ h hb => Rv.new h hb, fun _ _ _ h hb => Rv.new h hb, fun _ _ _ h _ => h, fun _ _ _ h _ => h, fun _ _ _ h _ => h, fun _ _ _ h _ => h, fun _ _ _ h _ => h, fun _ _ _ h hb => Rv.new h hb, fun _ _ _ h hb => Rv.new h hb, fun _ _ _ h hb => Rv.new h hb, fun _ _ _ h _ => h, fun _ _ _ h _ => h, fun _ _ _ h _ => h, fun _ _ _ h _ => h, fun _ _ _ h _ => h, fun _ _ _ h _ => h, fun _ _ _ h hb => Rv.new h hb, fun _ _ _ h hb => Rv.new h hb, fun _ _ _ h hb => Rv.new h hb, fun _ _ _ h _ => h, fun _ _ _ h _ => h, fun _ _ _ h _ => h, fun _ _ _ h _ => h, fun _ _ _ h _ => h, fun _ _ _ h _ => h, fun _ _ _ h hb => Rv.new h hb, fun _ _ _ h hb => Rv.new h hb, fun _ _ _ h _ => h, fun _ _ _ h _ => h, fun _ _ _ h _ => h, fun _ _ _ h _ => h, fun _ _ _ h hb => Rv.new h hb, fun _ _ _ h hb => Rv.new h hb, fun _ _ _ h _ => h, fun _ _ _ h _ => h, fun _ _ _ h _ => h, fun _ _ _ h _ => h, fun _ _ _ h _ => h, fun _ _ _ h _ => h, fun _ _ _ h _ => h, fun _ _ _ h hb => Rv.new h hb, fun _ _ _ h _ => h, fun _ _ _ h _ => h, fun _ _ _ h _ => h, fun _ _ _ h _ => h, fun _ _ _ h _ => h, fun _ _ _ h _ => h, fun _ _ _ h _ => h, fun _ _ _ h _ => h, fun _ _ _ h _ => h, fun _ _ _ h _ => h, trivial⟩
  · refine ⟨?_, ?_, ?_, ?_, ?_, ?_, ?_, ?_, ?_, ?_, ?_, ?_, ?_, ?_, ?_, ?_, ?_, ?_, ?_, ?_, ?_, ?_, ?_, ?_, ?_, ?_, ?_, ?_, ?_, ?_, ?_, ?_, ?_, ?_, ?_, ?_, ?_, ?_, ?_, ?_, ?_, ?_, ?_, ?_, ?_, ?_, ?_, ?_, ?_, ?_, ?_, ?_, trivial⟩
    · exact fun _ _ hb he hd => ob_plain rfl (load_bn rfl he.1 (Bn.new Bx_.out hb))
    · exact fun _ _ hb he hd => ob_plain rfl (load_bn rfl he.2.1 (Bn.new By_.out hb))
    · exact fun _ _ hb he hd => ob_plain rfl (gives_call2 _ _ _ _ rfl call_add (add_v hd.1.rw hd.2.1.rw (by omega)))
    · exact fun _ _ hb he hd => ob_plain rfl (load_qb rfl he.2.2.1 (Qb.new Qx_.out hb))
    · exact fun _ _ hb he hd => ob_plain rfl (load_qb rfl he.2.2.2.1 (Qb.new Qy_.out hb))
    · exact fun _ _ hb he hd => ob_plain rfl (gives_call2 _ _ _ _ rfl call_radd (radd_v SX.out SY.out _ _ hd.1 hd.2.1 _))
    · exact fun _ _ hb he hd => ob_plain rfl (gives_call2 _ _ _ _ rfl call_is (is_v hd.1 hd.2.1 (rfl) (SX.out.add_le SY.out)))
    · exact fun _ _ hb he hd => ob_plain rfl (gives_move _ rfl ⟨hd.1, Below.refl _ _⟩)
    · exact fun _ _ hb he hd => ob_on 78 rfl (by kernel_rfl) hd.1 (load_bn rfl he.1 (Bn.new Bx_.out hb))
    · exact fun _ _ hb he hd => ob_on 78 rfl (by kernel_rfl) hd.1 (load_bn rfl he.2.1 (Bn.new By_.out hb))
    · exact fun _ _ hb he hd => ob_on 78 rfl (by kernel_rfl) hd.1 (gives_call2 _ _ _ _ rfl call_sub (sub_v hd.2.1.rw hd.2.2.1.rw (by omega)))
    · exact fun _ _ hb he hd => ob_on 78 rfl (by kernel_rfl) hd.1 (load_qb rfl he.2.2.1 (Qb.new Qx_.out hb))
    · exact fun _ _ hb he hd => ob_on 78 rfl (by kernel_rfl) hd.1 (load_qb rfl he.2.2.2.2.1 (Qb.new Qn_.out hb))
    · exact fun _ _ hb he hd => ob_on 78 rfl (by kernel_rfl) hd.1 (gives_call2 _ _ _ _ rfl call_radd (radd_v SX.out SN.out _ _ hd.2.1 hd.2.2.1 _))
    · exact fun _ _ hb he hd => ob_on 78 rfl (by kernel_rfl) hd.1 (gives_call2 _ _ _ _ rfl call_is (is_v hd.2.1 hd.2.2.1 (by rw [Rat.sub_eq_add_neg]) (SX.out.add_le SN.out)))
    · exact fun _ _ hb he hd => ob_plain rfl (gives_pick true _ _ _ rfl hd.1 ⟨hd.2.1, Below.refl _ _⟩)
    · exact fun _ _ hb he hd => ob_plain rfl (gives_move _ rfl ⟨hd.1, Below.refl _ _⟩)
    · exact fun _ _ hb he hd => ob_on 87 rfl (by kernel_rfl) hd.1 (load_bn rfl he.1 (Bn.new Bx_.out hb))
    · exact fun _ _ hb he hd => ob_on 87 rfl (by kernel_rfl) hd.1 (load_bn rfl he.2.1 (Bn.new By_.out hb))
    · exact fun _ _ hb he hd => ob_on 87 rfl (by kernel_rfl) hd.1 (gives_call2 _ _ _ _ rfl call_mul (mul_v hd.2.1.rw hd.2.2.1.rw (by omega)))
    · exact fun _ _ hb he hd => ob_on 87 rfl (by kernel_rfl) hd.1 (load_qb rfl he.2.2.1 (Qb.new Qx_.out hb))
    · exact fun _ _ hb he hd => ob_on 87 rfl (by kernel_rfl) hd.1 (load_qb rfl he.2.2.2.1 (Qb.new Qy_.out hb))
    · exact fun _ _ hb he hd => ob_on 87 rfl (by kernel_rfl) hd.1 (gives_call2 _ _ _ _ rfl call_rmul (rmul_v SX.out SY.out _ _ hd.2.1 hd.2.2.1 _))
    · exact fun _ _ hb he hd => ob_on 87 rfl (by kernel_rfl) hd.1 (gives_call2 _ _ _ _ rfl call_is (is_v hd.2.1 hd.2.2.1 (rfl) (SX.out.mul_le SY.out)))
    · exact fun _ _ hb he hd => ob_plain rfl (gives_pick true _ _ _ rfl hd.1 ⟨hd.2.1, Below.refl _ _⟩)
    · exact fun _ _ hb he hd => ob_plain rfl (gives_move _ rfl ⟨hd.1, Below.refl _ _⟩)
    · exact fun _ _ hb he hd => ob_on 96 rfl (by kernel_rfl) hd.1 (load_bn rfl he.2.1 (Bn.new By_.out hb))
    · exact fun _ _ hb he hd => ob_on 96 rfl (by kernel_rfl) hd.1 (gives_call1 _ _ _ rfl call_neg (neg_v hd.2.1.rw (by omega)))
    · exact fun _ _ hb he hd => ob_on 96 rfl (by kernel_rfl) hd.1 (load_qb rfl he.2.2.2.2.1 (Qb.new Qn_.out hb))
    · exact fun _ _ hb he hd => ob_on 96 rfl (by kernel_rfl) hd.1 (gives_call2 _ _ _ _ rfl call_is (is_v hd.2.1 hd.2.2.1 (rfl) (SN.out.le)))
    · exact fun _ _ hb he hd => ob_plain rfl (gives_pick true _ _ _ rfl hd.1 ⟨hd.2.1, Below.refl _ _⟩)
    · exact fun _ _ hb he hd => ob_plain rfl (gives_move _ rfl ⟨hd.1, Below.refl _ _⟩)
    · exact fun _ _ hb he hd => ob_on 102 rfl (by kernel_rfl) hd.1 (load_bn rfl he.1 (Bn.new Bx_.out hb))
    · exact fun _ _ hb he hd => ob_on 102 rfl (by kernel_rfl) hd.1 (load_bn rfl he.2.1 (Bn.new By_.out hb))
    · exact fun _ _ hb he hd => ob_on 102 rfl (by kernel_rfl) hd.1 (gives_call2 _ _ _ _ rfl call_cmp (cmp_v hd.2.1.rw hd.2.2.1.rw (by omega)))
    · exact fun _ _ hb he hd => ob_on 102 rfl (by kernel_rfl) hd.1 (load_qb rfl he.2.2.1 (Qb.new Qx_.out hb))
    · exact fun _ _ hb he hd => ob_on 102 rfl (by kernel_rfl) hd.1 (load_qb rfl he.2.2.2.1 (Qb.new Qy_.out hb))
    · exact fun _ _ hb he hd => ob_on 102 rfl (by kernel_rfl) hd.1 (gives_call2 _ _ _ _ rfl call_rcmp (rcmp_v SX.out SY.out _ _ hd.2.1 hd.2.2.1 _))
    · exact fun _ _ hb he hd => ob_on 102 rfl (by kernel_rfl) hd.1 (gives_eq_int (rcq (x) (y)) (rcq x y) .i64 _ _ _ _ rfl hd.2.1 hd.2.2.1 ⟨congrArg Value.bool (by simp), Below.refl _ _⟩)
    · exact fun _ _ hb he hd => ob_plain rfl (gives_pick true _ _ _ rfl hd.1 ⟨hd.2.1, Below.refl _ _⟩)
    · exact fun _ _ hb he hd => ob_plain rfl (gives_move _ rfl ⟨hd.1, Below.refl _ _⟩)
    · exact fun _ _ hb he hd => ob_on 111 rfl (by kernel_rfl) hd.1 (load_bn rfl he.1 (Bn.new Bx_.out hb))
    · exact fun _ _ hb he hd => ob_on 111 rfl (by kernel_rfl) hd.1 (gives_call1 _ _ _ rfl call_sign (sign_v hd.2.1.rw))
    · exact fun _ _ hb he hd => ob_on 111 rfl (by kernel_rfl) hd.1 (load_qb rfl he.2.2.1 (Qb.new Qx_.out hb))
    · exact fun _ _ hb he hd => ob_on 111 rfl (by kernel_rfl) hd.1 (gives_call2 _ _ _ _ rfl call_low (low_v (0) (1) (by omega) (by omega) (by omega) (by omega) (by omega) _ _ rfl rfl _))
    · exact fun _ _ hb he hd => ob_on 111 rfl (by kernel_rfl) hd.1 (gives_call2 _ _ _ _ rfl call_rcmp (rcmp_v SX.out sm_zeroq _ _ hd.2.1 hd.2.2.1 _))
    · exact fun _ _ hb he hd => ob_on 111 rfl (by kernel_rfl) hd.1 (gives_eq_int ((x).num.sign) (rcq x zeroq) .i64 _ _ _ _ rfl hd.2.1 hd.2.2.1 ⟨congrArg Value.bool (by rw [zeroq_eq, rcq_zero]; simp), Below.refl _ _⟩)
    · exact fun _ _ hb he hd => ob_plain rfl (gives_pick true _ _ _ rfl hd.1 ⟨hd.2.1, Below.refl _ _⟩)
    · exact fun _ _ hb he hd => ob_plain rfl (gives_move _ rfl ⟨hd.1, Below.refl _ _⟩)
    · exact fun _ _ hb he hd => ob_on 119 rfl (by kernel_rfl) hd.1 (gives_call0 _ _ rfl call_awake (awake_v _))
    · exact fun _ _ hb he hd => ob_plain rfl (gives_pick true _ _ _ rfl hd.1 ⟨hd.2.1, Below.refl _ _⟩)
    · exact fun _ _ hb he hd => ob_plain rfl (gives_assign _ rfl ⟨hd.1, Below.refl _ _⟩)
  intro vs w14 hb hR
  have e4 : vs 51 = .bool true := hR 51 (by decide)
  clear hR
  simp only [putsL, Nat.zero_add, Nat.reduceAdd, List.take_succ_cons, List.take_zero, Act.put, List.setIfInBounds_toArray, List.set_cons_zero, List.set_cons_succ]
  rw [e4]
  clear e4
  replace HW := Lib.hid (bthen HW.out hb HW.out.size)
  go_wp2_with fail
  go_ret
  exact ⟨rfl, HW.out⟩
set_option maxRecDepth 100000 in
set_option maxHeartbeats 8000000 in
theorem counts_n (a b c d : Int) (w : World) (h : winB a b c d = true) (HY : Hid (((c : Int) : Rat) / ((den1 d : Int) : Rat) ≠ 0)) : Calls Try.prog 7 #[.agg #[.int .i64 a, .int .i64 b, .int .i64 c, .int .i64 d]] w fun e w' => e = .returned (.bool true) ∧ Below w.heap.size w w' := by
  have hwin := of_decide_eq_true h
  obtain ⟨⟨wa1, wa2⟩, ⟨wb1, wb2⟩, ⟨wc1, wc2⟩, ⟨wd1, wd2⟩⟩ := hwin
  have HN := Lib.hid h; clear h
  have hx := sm_frac a b ⟨wa1, wa2⟩ ⟨wb1, wb2⟩
  have hy := sm_frac c d ⟨wc1, wc2⟩ ⟨wd1, wd2⟩
  have CX := Lib.hid (fun v v' (hv : v = .int .i64 a) (hv' : v' = .int .i64 b) W => of_v a b ⟨wa1, wa2⟩ ⟨wb1, wb2⟩ v v' hv hv' W)
  have CY := Lib.hid (fun v v' (hv : v = .int .i64 c) (hv' : v' = .int .i64 d) W => of_v c d ⟨wc1, wc2⟩ ⟨wd1, wd2⟩ v v' hv hv' W)
  generalize ((a : Int) : Rat) / ((den1 b : Int) : Rat) = x at hx CX
  generalize ((c : Int) : Rat) / ((den1 d : Int) : Rat) = y at hy CY HY
  have hry := hy.rng
  obtain ⟨⟨yn1, yn2⟩, ⟨yd1, yd2⟩, yd3⟩ := hry
  have SX := Lib.hid hx; have SY := Lib.hid hy; clear hx hy
  clear wa1 wa2 wb1 wb2 wc1 wc2 wd1 wd2
  have HA : Hid (A4 (w.alloc (.cells #[.int .i64 a, .int .i64 b, .int .i64 c, .int .i64 d] 22)) w.heap.size a b c d) := Lib.hid (Blk.new w _ _)
  have c0 := HA.out.c0; have c1 := HA.out.c1; have c2 := HA.out.c2; have c3 := HA.out.c3
  go_enter Try.func7, Try.ntmps7
  go_wp2_with fail
  refine within_any.mono ?_
  rintro e w1 ⟨rfl, hb⟩
  rw [HN.out]
  replace HA := Lib.hid (HA.out.new hb)
  have HW := Lib.hid (bthen (al w _) hb (al w _).size); clear hb c0 c1 c2 c3
  go_upto_region 3 with (fail)
  refine wp_region_joins (kss := [[], [(0, 15)], [], [(2, 17)], [(1, 16), (3, 18)], [(4, 19)], [(5, 14)], [(5, 14)], [], []]) [(1, .pointer (some ⟨w.heap.size, 0, none⟩))] [fun v _ => v = .pointer (some ⟨w.heap.size, 0, none⟩), fun v _ => v = .int .i64 (a), fun v _ => v = .pointer (some ⟨w.heap.size, 1, none⟩), fun v _ => v = .int .i64 (b), OfV (x), OfV (x), Rv 2 (x), fun v _ => v = QL (x), Zb w1.heap.size, Zq w1.heap.size] 10 (by kernel_rfl) ⟨rfl, trivial⟩ [false, false, false, false, false, false, false, false, true, false] ?_ ?_ ?_
  · exact ⟨fun _ _ _ h _ => h, fun _ _ _ h _ => h, fun _ _ _ h _ => h, fun _ _ _ h _ => h, fun _ _ _ h hb => OfV.new h hb, fun _ _ _ h hb => OfV.new h hb, fun _ _ _ h hb => Rv.new h hb, fun _ _ _ h _ => h, fun _ _ _ h hb => Zb.new h hb, fun _ _ _ h hb => Zq.new h hb, trivial⟩
  · refine ⟨?_, ?_, ?_, ?_, ?_, ?_, ?_, ?_, ?_, ?_, trivial⟩
    · exact fun _ _ hb he hd => ob_plain rfl (idx_0 rfl he.1)
    · exact fun _ _ hb he hd => ob_plain rfl (load_i64 rfl hd.1 (A4.new HA.out hb).c0)
    · exact fun _ _ hb he hd => ob_plain rfl (idx_1 rfl he.1)
    · exact fun _ _ hb he hd => ob_plain rfl (load_i64 rfl hd.1 (A4.new HA.out hb).c1)
    · exact fun _ _ hb he hd => ob_plain rfl (gives_call2 _ _ _ _ rfl call_lof (CX.out _ _ hd.1 hd.2.1 _))
    · exact fun _ _ hb he hd => ob_plain rfl (gives_move _ rfl ⟨hd.1, Below.refl _ _⟩)
    · exact fun _ _ hb he hd => ob_plain rfl (ext_o0 rfl hd.1)
    · exact fun _ _ hb he hd => ob_plain rfl (ext_o1 rfl hd.1)
    · exact fun _ _ hb he hd => ⟨by simp [Region.wanted], alloc_rat rfl hb⟩
    · exact fun _ _ hb he hd => ob_plain rfl (alloc_q rfl hb)
  intro vs w2 hb hR
  have rv : Rv 2 (x) (vs 6) w2 := hR 6 (by decide)
  have e1 : vs 7 = QL (x) := hR 7 (by decide)
  obtain ⟨g3, k3, z3⟩ : Zb w1.heap.size (vs 8) w2 := hR 8 (by decide)
  obtain ⟨g4, k4, z4a, z4⟩ : Zq w1.heap.size (vs 9) w2 := hR 9 (by decide)
  clear hR
  simp only [putsL, Nat.zero_add, Nat.reduceAdd, List.take_succ_cons, List.take_zero, Act.put, List.setIfInBounds_toArray, List.set_cons_zero, List.set_cons_succ]
  rw [e1, k3, k4]
  clear e1 k3 k4
  generalize vs 6 = u6 at *
  show wpOps _ _ _ [10, 11] _ _
  refine wpOps_next rfl rfl (store_rv rfl rfl rfl rfl z3 rv ?_)
  rintro w3 ⟨y1, y2, y3, rfl, hT⟩ rv1 hG hB
  have hne : g4 ≠ g3 := Blk.ne_ (GB.blk z4) z3.2 (by decide)
  have hQ := hG _ _ _ _ hne z4
  have hb4 := hB _ _ z3.1 hb
  refine wpOps_next rfl rfl (store_q rfl rfl rfl rfl hQ ?_)
  show Exit.then _ _ _ _ _
  obtain ⟨hB3, hQ4, hb5⟩ := pair_world rv1 hT hQ hne hb4 z4a
  clear rv1 hT hQ hne hb4 z3 z4 z4a rv hG hB hb
  generalize (w3.setCell ⟨g4, 0, none⟩ (.int .i64 x.num)).setCell ⟨g4, 1, none⟩ (.int .i64 (x.den : Int)) = w4 at hB3 hQ4 hb5 ⊢
  have Bx_ := Lib.hid hB3; have Qx_ := Lib.hid hQ4
  replace HA := Lib.hid (HA.out.new hb5); replace HW := Lib.hid (bthen HW.out hb5 HW.out.size)
  clear hB3 hQ4 hb5
  go_upto_region 4 with (fail)
  refine wp_region_joins (kss := [[], [(0, 23)], [], [(2, 25)], [(1, 24), (3, 26)], [(4, 27)], [(5, 22)], [(5, 22)], [], []]) [(1, .pointer (some ⟨w.heap.size, 0, none⟩))] [fun v _ => v = .pointer (some ⟨w.heap.size, 2, none⟩), fun v _ => v = .int .i64 (c), fun v _ => v = .pointer (some ⟨w.heap.size, 3, none⟩), fun v _ => v = .int .i64 (d), OfV (y), OfV (y), Rv 2 (y), fun v _ => v = QL (y), Zb w4.heap.size, Zq w4.heap.size] 10 (by kernel_rfl) ⟨rfl, trivial⟩ [false, false, false, false, false, false, false, false, true, false] ?_ ?_ ?_
  · exact ⟨fun _ _ _ h _ => h, fun _ _ _ h _ => h, fun _ _ _ h _ => h, fun _ _ _ h _ => h, fun _ _ _ h hb => OfV.new h hb, fun _ _ _ h hb => OfV.new h hb, fun _ _ _ h hb => Rv.new h hb, fun _ _ _ h _ => h, fun _ _ _ h hb => Zb.new h hb, fun _ _ _ h hb => Zq.new h hb, trivial⟩
  · refine ⟨?_, ?_, ?_, ?_, ?_, ?_, ?_, ?_, ?_, ?_, trivial⟩
    · exact fun _ _ hb he hd => ob_plain rfl (idx_2 rfl he.1)
    · exact fun _ _ hb he hd => ob_plain rfl (load_i64 rfl hd.1 (A4.new HA.out hb).c2)
    · exact fun _ _ hb he hd => ob_plain rfl (idx_3 rfl he.1)
    · exact fun _ _ hb he hd => ob_plain rfl (load_i64 rfl hd.1 (A4.new HA.out hb).c3)
    · exact fun _ _ hb he hd => ob_plain rfl (gives_call2 _ _ _ _ rfl call_lof (CY.out _ _ hd.1 hd.2.1 _))
    · exact fun _ _ hb he hd => ob_plain rfl (gives_move _ rfl ⟨hd.1, Below.refl _ _⟩)
    · exact fun _ _ hb he hd => ob_plain rfl (ext_o0 rfl hd.1)
    · exact fun _ _ hb he hd => ob_plain rfl (ext_o1 rfl hd.1)
    · exact fun _ _ hb he hd => ⟨by simp [Region.wanted], alloc_rat rfl hb⟩
    · exact fun _ _ hb he hd => ob_plain rfl (alloc_q rfl hb)
  intro vs w5 hb hR
  have rv : Rv 2 (y) (vs 6) w5 := hR 6 (by decide)
  have e1 : vs 7 = QL (y) := hR 7 (by decide)
  obtain ⟨g5, k3, z3⟩ : Zb w4.heap.size (vs 8) w5 := hR 8 (by decide)
  obtain ⟨g6, k4, z4a, z4⟩ : Zq w4.heap.size (vs 9) w5 := hR 9 (by decide)
  clear hR
  simp only [putsL, Nat.zero_add, Nat.reduceAdd, List.take_succ_cons, List.take_zero, Act.put, List.setIfInBounds_toArray, List.set_cons_zero, List.set_cons_succ]
  rw [e1, k3, k4]
  clear e1 k3 k4
  generalize vs 6 = u6 at *
  show wpOps _ _ _ [10, 11] _ _
  refine wpOps_next rfl rfl (store_rv rfl rfl rfl rfl z3 rv ?_)
  rintro w6 ⟨y1, y2, y3, rfl, hT⟩ rv1 hG hB
  have hne : g6 ≠ g5 := Blk.ne_ (GB.blk z4) z3.2 (by decide)
  have hQ := hG _ _ _ _ hne z4
  have hb4 := hB _ _ z3.1 hb
  refine wpOps_next rfl rfl (store_q rfl rfl rfl rfl hQ ?_)
  show Exit.then _ _ _ _ _
  obtain ⟨hB3, hQ4, hb5⟩ := pair_world rv1 hT hQ hne hb4 z4a
  clear rv1 hT hQ hne hb4 z3 z4 z4a rv hG hB hb
  generalize (w6.setCell ⟨g6, 0, none⟩ (.int .i64 y.num)).setCell ⟨g6, 1, none⟩ (.int .i64 (y.den : Int)) = w7 at hB3 hQ4 hb5 ⊢
  have By_ := Lib.hid hB3; have Qy_ := Lib.hid hQ4
  replace HA := Lib.hid (HA.out.new hb5); replace HW := Lib.hid (bthen HW.out hb5 HW.out.size)
  replace Bx_ := Lib.hid (Bx_.out.new hb5)
  replace Qx_ := Lib.hid (Qx_.out.new hb5)
  clear hB3 hQ4 hb5
  go_upto_region 5 with (fail)
  refine wp_region_joins (kss := [[], [], [(0, 31), (1, 32)], [(2, 33)], [(3, 30)], [(3, 30)], []]) [(3, .pointer (some ⟨g3, 0, none⟩)), (5, .pointer (some ⟨g5, 0, none⟩))] [Rv 2 (x), Rv 2 (y), Dv 4 (x / y), Dv 4 (x / y), Rv 4 (x / y), fun v _ => v = .int .i64 (0), Zb w7.heap.size] 7 (by kernel_rfl) ⟨rfl, rfl, trivial⟩ [false, false, false, false, false, false, true] ?_ ?_ ?_
  · exact ⟨fun _ _ _ h hb => Rv.new h hb, fun _ _ _ h hb => Rv.new h hb, fun _ _ _ h hb => Dv.new h hb, fun _ _ _ h hb => Dv.new h hb, fun _ _ _ h hb => Rv.new h hb, fun _ _ _ h _ => h, fun _ _ _ h hb => Zb.new h hb, trivial⟩
  · refine ⟨?_, ?_, ?_, ?_, ?_, ?_, ?_, trivial⟩
    · exact fun _ _ hb he hd => ob_plain rfl (load_bn rfl he.1 (Bn.new Bx_.out hb))
    · exact fun _ _ hb he hd => ob_plain rfl (load_bn rfl he.2.1 (Bn.new By_.out hb))
    · exact fun _ _ hb he hd => ob_plain rfl (gives_call2 _ _ _ _ rfl call_div (div_v hd.1.rw hd.2.1.rw (by omega) (HY.out)))
    · exact fun _ _ hb he hd => ob_plain rfl (gives_move _ rfl ⟨hd.1, Below.refl _ _⟩)
    · exact fun _ _ hb he hd => ob_plain rfl (ext_q rfl hd.1)
    · exact fun _ _ hb he hd => ob_plain rfl (ext_e rfl hd.1)
    · exact fun _ _ hb he hd => ⟨by simp [Region.wanted], alloc_rat rfl hb⟩
  intro vs w9 hb hR
  have rv : Rv 4 (x / y) (vs 4) w9 := hR 4 (by decide)
  have e5 : vs 5 = .int .i64 0 := hR 5 (by decide)
  obtain ⟨g7, k7, z7⟩ : Zb w7.heap.size (vs 6) w9 := hR 6 (by decide)
  clear hR
  simp only [putsL, Nat.zero_add, Nat.reduceAdd, List.take_succ_cons, List.take_zero, Act.put, List.setIfInBounds_toArray, List.set_cons_zero, List.set_cons_succ]
  rw [e5, k7]
  clear e5 k7
  generalize vs 4 = u4 at *
  show wpOps _ _ _ [7, 8] _ _
  refine wpOps_next rfl rfl (store_rv rfl rfl rfl rfl z7 rv ?_)
  rintro w10 ⟨y1, y2, y3, rfl, hT⟩ rv1 hG hB
  have hb5 := hB _ _ z7.1 hb
  refine wpOps_next rfl rfl (wp_assign 8 (.tmp 35) rfl rfl (.int .i64 0) rfl ?_)
  simp only [Act.put, List.setIfInBounds_toArray, List.set_cons_zero, List.set_cons_succ]
  show Exit.then _ _ _ _ _
  replace HA := Lib.hid (HA.out.new hb5); replace HW := Lib.hid (bthen HW.out hb5 HW.out.size)
  replace Bx_ := Lib.hid (Bx_.out.new hb5); replace By_ := Lib.hid (By_.out.new hb5); replace Qx_ := Lib.hid (Qx_.out.new hb5); replace Qy_ := Lib.hid (Qy_.out.new hb5)
  have B7 := Lib.hid (bn_of rv1 hT)
  have YN := Lib.hid (num_ne HY.out)
  have t6 : (y.num == 0) = false := by simp [YN.out]
  have q0 : w10.cell? ⟨g6, 0, none⟩ = some (.int .i64 y.num) := GB.c0 Qy_.out
  have lq : g6 < w10.heap.size := Qb.lt Qy_.out
  clear hT hB hb hb5 z7 rv1 hG rv
  go_upto_region 9 with (fail)
  clear q0 lq t6
  have SR := Lib.hid (SY.out.recp HY.out)
  refine wp_region_each (kss := [[], [(0, 51)], [(1, 52)], [(2, 53)], [(2, 53)], [(2, 53)], [(2, 53), (5, 56)], [(2, 53)], [(2, 53), (7, 58)], [(2, 53), (6, 57), (8, 59)], [(2, 53), (4, 55), (9, 60)], [(2, 53), (3, 54), (10, 61)], [(2, 53), (11, 62)], [(2, 53), (12, 63)]]) [(8, .int .i64 (0)), (7, .pointer (some ⟨g7, 0, none⟩)), (4, .pointer (some ⟨g4, 0, none⟩)), (6, .pointer (some ⟨g6, 0, none⟩))] [fun v _ => v = .int .i64 (0), fun v _ => v = .bool (false), fun v _ => v = .bool (false), Rv 4 (x / y), fun v _ => v = QL (x), fun v _ => v = .pointer (some ⟨g6, 1, none⟩), fun v _ => v = .int .i64 ((y.den : Int)), fun v _ => v = .pointer (some ⟨g6, 0, none⟩), fun v _ => v = .int .i64 (y.num), fun v _ => v = QL (recp y), fun v _ => v = QL (x * (recp y)), fun v _ => v = .bool (true), fun v _ => v = .bool (false), fun v _ => v = .bool (false)] (by kernel_rfl) (by kernel_rfl) ⟨rfl, rfl, rfl, rfl, trivial⟩ ?_ ?_ ?_
  · exact ⟨fun _ _ _ h _ => h, fun _ _ _ h _ => h, fun _ _ _ h _ => h, fun _ _ _ h hb => Rv.new h hb, fun _ _ _ h _ => h, fun _ _ _ h _ => h, fun _ _ _ h _ => h, fun _ _ _ h _ => h, fun _ _ _ h _ => h, fun _ _ _ h _ => h, fun _ _ _ h _ => h, fun _ _ _ h _ => h, fun _ _ _ h _ => h, fun _ _ _ h _ => h, trivial⟩
  · refine ⟨?_, ?_, ?_, ?_, ?_, ?_, ?_, ?_, ?_, ?_, ?_, ?_, ?_, ?_, trivial⟩
    · exact fun _ _ hb he hd => ob_plain rfl (gives_move _ rfl ⟨he.1, Below.refl _ _⟩)
    · exact fun _ _ hb he hd => ob_plain rfl (gives_ne_int (0) (0) .i64 _ _ _ _ rfl hd.1 rfl ⟨congrArg Value.bool (by decide), Below.refl _ _⟩)
    · exact fun _ _ hb he hd => ob_plain rfl (gives_move _ rfl ⟨hd.1, Below.refl _ _⟩)
    · exact fun _ _ hb he hd => ob_on 53 rfl (by kernel_rfl) hd.1 (load_bn rfl he.2.1 (Bn.new B7.out hb))
    · exact fun _ _ hb he hd => ob_on 53 rfl (by kernel_rfl) hd.1 (load_qb rfl he.2.2.1 (Qb.new Qx_.out hb))
    · exact fun _ _ hb he hd => ob_on 53 rfl (by kernel_rfl) hd.1 (fld_q1 rfl he.2.2.2.1)
    · exact fun _ _ hb he hd => ob_on 53 rfl (by kernel_rfl) hd.1 (load_i64 rfl hd.2.1 (GB.c1 (Qb.new Qy_.out hb)))
    · exact fun _ _ hb he hd => ob_on 53 rfl (by kernel_rfl) hd.1 (fld_q0 rfl he.2.2.2.1)
    · exact fun _ _ hb he hd => ob_on 53 rfl (by kernel_rfl) hd.1 (load_i64 rfl hd.2.1 (GB.c0 (Qb.new Qy_.out hb)))
    · exact fun _ _ hb he hd => ob_on 53 rfl (by kernel_rfl) hd.1 (gives_call2 _ _ _ _ rfl call_low (low_v ((y.den : Int)) (y.num) (by omega) (by omega) (by omega) (by omega) (YN.out) _ _ hd.2.1 hd.2.2.1 _))
    · exact fun _ _ hb he hd => ob_on 53 rfl (by kernel_rfl) hd.1 (gives_call2 _ _ _ _ rfl call_rmul (rmul_v SX.out SR.out _ _ hd.2.1 hd.2.2.1 _))
    · exact fun _ _ hb he hd => ob_on 53 rfl (by kernel_rfl) hd.1 (gives_call2 _ _ _ _ rfl call_is (is_v hd.2.1 hd.2.2.1 (div_recp HY.out) (SX.out.mul_le SR.out)))
    · exact fun _ _ hb he hd => ob_on 53 rfl (by kernel_rfl) hd.1 (gives_not (true) _ _ rfl hd.2.1 ⟨rfl, Below.refl _ _⟩)
    · exact fun _ _ hb he hd => ob_plain rfl (gives_pick false _ _ _ rfl hd.1 ⟨hd.2.1, Below.refl _ _⟩)
  intro vs w11 hb hR
  have e64 : vs 13 = .bool false := hR 13 (by decide)
  clear hR
  simp only [putsL, Nat.zero_add, Nat.reduceAdd, List.take_succ_cons, List.take_zero, Act.put, List.setIfInBounds_toArray, List.set_cons_zero, List.set_cons_succ]
  rw [e64]
  clear e64
  replace HW := Lib.hid (bthen HW.out hb HW.out.size)
  replace Bx_ := Lib.hid (Bx_.out.new hb); replace By_ := Lib.hid (By_.out.new hb); replace Qx_ := Lib.hid (Qx_.out.new hb); replace Qy_ := Lib.hid (Qy_.out.new hb)
  clear hb B7 SR YN
  go_upto_region 11 with (fail)
  refine wp_region_joins (kss := [[], [(0, 65)], [(1, 66)], [], [(3, 68)], [(2, 67), (4, 69)], []]) [(6, .pointer (some ⟨g6, 0, none⟩))] [fun v _ => v = .pointer (some ⟨g6, 0, none⟩), fun v _ => v = .int .i64 (y.num), fun v _ => v = .int .i64 (-(y.num)), fun v _ => v = .pointer (some ⟨g6, 1, none⟩), fun v _ => v = .int .i64 ((y.den : Int)), fun v _ => v = QL (negq y), Zq w11.heap.size] 7 (by kernel_rfl) ⟨rfl, trivial⟩ [false, false, false, false, false, false, false] ?_ ?_ ?_
  · exact ⟨fun _ _ _ h _ => h, fun _ _ _ h _ => h, fun _ _ _ h _ => h, fun _ _ _ h _ => h, fun _ _ _ h _ => h, fun _ _ _ h _ => h, fun _ _ _ h hb => Zq.new h hb, trivial⟩
  · refine ⟨?_, ?_, ?_, ?_, ?_, ?_, ?_, trivial⟩
    · exact fun _ _ hb he hd => ob_plain rfl (fld_q0 rfl he.1)
    · exact fun _ _ hb he hd => ob_plain rfl (load_i64 rfl hd.1 (GB.c0 (Qb.new Qy_.out hb)))
    · exact fun _ _ hb he hd => ob_plain rfl (gives_neg_i64 (y.num) _ _ rfl hd.1 (⟨yn1, yn2⟩) ⟨rfl, Below.refl _ _⟩)
    · exact fun _ _ hb he hd => ob_plain rfl (fld_q1 rfl he.1)
    · exact fun _ _ hb he hd => ob_plain rfl (load_i64 rfl hd.1 (GB.c1 (Qb.new Qy_.out hb)))
    · exact fun _ _ hb he hd => ob_plain rfl (gives_call2 _ _ _ _ rfl call_low (low_v (-(y.num)) ((y.den : Int)) (by omega) (by omega) (by omega) (by omega) (yd3) _ _ hd.1 hd.2.1 _))
    · exact fun _ _ hb he hd => ob_plain rfl (alloc_q rfl hb)
  intro vs w12 hb hR
  have e1 : vs 5 = QL (negq y) := hR 5 (by decide)
  obtain ⟨g9, k4, z4a, z4⟩ : Zq w11.heap.size (vs 6) w12 := hR 6 (by decide)
  clear hR
  simp only [putsL, Nat.zero_add, Nat.reduceAdd, List.take_succ_cons, List.take_zero, Act.put, List.setIfInBounds_toArray, List.set_cons_zero, List.set_cons_succ]
  rw [e1, k4]
  clear e1 k4
  show wpOps _ _ _ [7] _ _
  refine wpOps_next rfl rfl (store_q rfl rfl rfl rfl z4 ?_)
  show Exit.then _ _ _ _ _
  obtain ⟨hQ9, hb5⟩ := q_world (x := negq y) z4 hb z4a
  generalize (w12.setCell ⟨g9, 0, none⟩ (.int .i64 (negq y).num)).setCell ⟨g9, 1, none⟩ (.int .i64 ((negq y).den : Int)) = w13 at hQ9 hb5 ⊢
  rw [negq_eq] at hQ9
  have Qn_ := Lib.hid hQ9
  replace HW := Lib.hid (bthen HW.out hb5 HW.out.size)
  replace Bx_ := Lib.hid (Bx_.out.new hb5); replace By_ := Lib.hid (By_.out.new hb5); replace Qx_ := Lib.hid (Qx_.out.new hb5); replace Qy_ := Lib.hid (Qy_.out.new hb5)
  clear hQ9 hb5 z4 z4a hb
  have SN := Lib.hid SY.out.neg
  go_upto_region 12 with (fail)
  refine wp_region_each (kss := [[], [], [(0, 71), (1, 72)], [], [], [(3, 74), (4, 75)], [(2, 73), (5, 76)], [(6, 77)], [(7, 78)], [(7, 78)], [(7, 78), (8, 79), (9, 80)], [(7, 78)], [(7, 78)], [(7, 78), (11, 82), (12, 83)], [(7, 78), (10, 81), (13, 84)], [(7, 78), (14, 85)], [(15, 86)], [(16, 87)], [(16, 87)], [(16, 87), (17, 88), (18, 89)], [(16, 87)], [(16, 87)], [(16, 87), (20, 91), (21, 92)], [(16, 87), (19, 90), (22, 93)], [(16, 87), (23, 94)], [(24, 95)], [(25, 96)], [(25, 96), (26, 97)], [(25, 96)], [(25, 96), (27, 98), (28, 99)], [(25, 96), (29, 100)], [(30, 101)], [(31, 102)], [(31, 102)], [(31, 102), (32, 103), (33, 104)], [(31, 102)], [(31, 102)], [(31, 102), (35, 106), (36, 107)], [(31, 102), (34, 105), (37, 108)], [(31, 102), (38, 109)], [(39, 110)], [(40, 111)], [(40, 111), (41, 112)], [(40, 111)], [(40, 111)], [(40, 111), (43, 114), (44, 115)], [(40, 111), (42, 113), (45, 116)], [(40, 111), (46, 117)], [(47, 118)], [(48, 119)], [(48, 119), (49, 120)], [(50, 121)]]) [(3, .pointer (some ⟨g3, 0, none⟩)), (5, .pointer (some ⟨g5, 0, none⟩)), (4, .pointer (some ⟨g4, 0, none⟩)), (6, .pointer (some ⟨g6, 0, none⟩)), (9, .pointer (some ⟨g9, 0, none⟩))] [Rv 2 (x), Rv 2 (y), Rv 5 (x + y), fun v _ => v = QL (x), fun v _ => v = QL (y), fun v _ => v = QL (x + y), fun v _ => v = .bool (true), fun v _ => v = .bool (true), Rv 2 (x), Rv 2 (y), Rv 5 (x - y), fun v _ => v = QL (x), fun v _ => v = QL (-y), fun v _ => v = QL (x + (-y)), fun v _ => v = .bool (true), fun v _ => v = .bool (true), fun v _ => v = .bool (true), Rv 2 (x), Rv 2 (y), Rv 4 (x * y), fun v _ => v = QL (x), fun v _ => v = QL (y), fun v _ => v = QL (x * y), fun v _ => v = .bool (true), fun v _ => v = .bool (true), fun v _ => v = .bool (true), Rv 2 (y), Rv 2 (-y), fun v _ => v = QL (-y), fun v _ => v = .bool (true), fun v _ => v = .bool (true), fun v _ => v = .bool (true), Rv 2 (x), Rv 2 (y), fun v _ => v = .int .i64 (rcq (x) (y)), fun v _ => v = QL (x), fun v _ => v = QL (y), fun v _ => v = .int .i64 (rcq x y), fun v _ => v = .bool (true), fun v _ => v = .bool (true), fun v _ => v = .bool (true), Rv 2 (x), fun v _ => v = .int .i64 ((x).num.sign), fun v _ => v = QL (x), fun v _ => v = QL (zeroq), fun v _ => v = .int .i64 (rcq x zeroq), fun v _ => v = .bool (true), fun v _ => v = .bool (true), fun v _ => v = .bool (true), fun v _ => v = .bool (true), fun v _ => v = .bool (true), fun v _ => v = .bool (true)] (by kernel_rfl) (by kernel_rfl) ⟨rfl, rfl, rfl, rfl, rfl, trivial⟩ ?_ ?_ ?_
  · exact ⟨fun _ _ _ h hb => Rv.new h hb, fun _ _ _ h hb => Rv.new h hb, fun _ _ _ h hb => Rv.new h hb, fun _ _ _ h _ => h, fun _ _ _ h _ => h, fun _ _ _ h _ => h, fun _ _ _ h _ => h, fun _ _ _ h _ => h, fun _ _ _ h hb => Rv.new h hb, fun _ _ _ h hb => Rv.new h hb, fun _ _ _ h hb => Rv.new h hb, fun _ _ _ h _ => h, fun _ _ _ h _ => h, fun _ _ _ h _ => h, fun _ _ _ h _ => h, fun _ _ _ h _ => h, fun _ _ _ h _ => h, fun _ _ _ h hb => Rv.new h hb, fun _ _ _ h hb => Rv.new h hb, fun _ _ _ h hb => Rv.new h hb, fun _ _ _ h _ => h, fun _ _ _ h _ => h, fun _ _ _ h _ => h, fun _ _ _ h _ => h, fun _ _ _ h _ => h, fun _ _ _ h _ => h, fun _ _ _ h hb => Rv.new h hb, fun _ _ _ h hb => Rv.new h hb, fun _ _ _ h _ => h, fun _ _ _ h _ => h, fun _ _ _ h _ => h, fun _ _ _ h _ => h, fun _ _ _ h hb => Rv.new h hb, fun _ _ _ h hb => Rv.new h hb, fun _ _ _ h _ => h, fun _ _ _ h _ => h, fun _ _ _ h _ => h, fun _ _ _ h _ => h, fun _ _ _ h _ => h, fun _ _ _ h _ => h, fun _ _ _ h _ => h, fun _ _ _ h hb => Rv.new h hb, fun _ _ _ h _ => h, fun _ _ _ h _ => h, fun _ _ _ h _ => h, fun _ _ _ h _ => h, fun _ _ _ h _ => h, fun _ _ _ h _ => h, fun _ _ _ h _ => h, fun _ _ _ h _ => h, fun _ _ _ h _ => h, fun _ _ _ h _ => h, trivial⟩
  · refine ⟨?_, ?_, ?_, ?_, ?_, ?_, ?_, ?_, ?_, ?_, ?_, ?_, ?_, ?_, ?_, ?_, ?_, ?_, ?_, ?_, ?_, ?_, ?_, ?_, ?_, ?_, ?_, ?_, ?_, ?_, ?_, ?_, ?_, ?_, ?_, ?_, ?_, ?_, ?_, ?_, ?_, ?_, ?_, ?_, ?_, ?_, ?_, ?_, ?_, ?_, ?_, ?_, trivial⟩
    · exact fun _ _ hb he hd => ob_plain rfl (load_bn rfl he.1 (Bn.new Bx_.out hb))
    · exact fun _ _ hb he hd => ob_plain rfl (load_bn rfl he.2.1 (Bn.new By_.out hb))
    · exact fun _ _ hb he hd => ob_plain rfl (gives_call2 _ _ _ _ rfl call_add (add_v hd.1.rw hd.2.1.rw (by omega)))
    · exact fun _ _ hb he hd => ob_plain rfl (load_qb rfl he.2.2.1 (Qb.new Qx_.out hb))
    · exact fun _ _ hb he hd => ob_plain rfl (load_qb rfl he.2.2.2.1 (Qb.new Qy_.out hb))
    · exact fun _ _ hb he hd => ob_plain rfl (gives_call2 _ _ _ _ rfl call_radd (radd_v SX.out SY.out _ _ hd.1 hd.2.1 _))
    · exact fun _ _ hb he hd => ob_plain rfl (gives_call2 _ _ _ _ rfl call_is (is_v hd.1 hd.2.1 (rfl) (SX.out.add_le SY.out)))
    · exact fun _ _ hb he hd => ob_plain rfl (gives_move _ rfl ⟨hd.1, Below.refl _ _⟩)
    · exact fun _ _ hb he hd => ob_on 78 rfl (by kernel_rfl) hd.1 (load_bn rfl he.1 (Bn.new Bx_.out hb))
    · exact fun _ _ hb he hd => ob_on 78 rfl (by kernel_rfl) hd.1 (load_bn rfl he.2.1 (Bn.new By_.out hb))
    · exact fun _ _ hb he hd => ob_on 78 rfl (by kernel_rfl) hd.1 (gives_call2 _ _ _ _ rfl call_sub (sub_v hd.2.1.rw hd.2.2.1.rw (by omega)))
    · exact fun _ _ hb he hd => ob_on 78 rfl (by kernel_rfl) hd.1 (load_qb rfl he.2.2.1 (Qb.new Qx_.out hb))
    · exact fun _ _ hb he hd => ob_on 78 rfl (by kernel_rfl) hd.1 (load_qb rfl he.2.2.2.2.1 (Qb.new Qn_.out hb))
    · exact fun _ _ hb he hd => ob_on 78 rfl (by kernel_rfl) hd.1 (gives_call2 _ _ _ _ rfl call_radd (radd_v SX.out SN.out _ _ hd.2.1 hd.2.2.1 _))
    · exact fun _ _ hb he hd => ob_on 78 rfl (by kernel_rfl) hd.1 (gives_call2 _ _ _ _ rfl call_is (is_v hd.2.1 hd.2.2.1 (by rw [Rat.sub_eq_add_neg]) (SX.out.add_le SN.out)))
    · exact fun _ _ hb he hd => ob_plain rfl (gives_pick true _ _ _ rfl hd.1 ⟨hd.2.1, Below.refl _ _⟩)
    · exact fun _ _ hb he hd => ob_plain rfl (gives_move _ rfl ⟨hd.1, Below.refl _ _⟩)
    · exact fun _ _ hb he hd => ob_on 87 rfl (by kernel_rfl) hd.1 (load_bn rfl he.1 (Bn.new Bx_.out hb))
    · exact fun _ _ hb he hd => ob_on 87 rfl (by kernel_rfl) hd.1 (load_bn rfl he.2.1 (Bn.new By_.out hb))
    · exact fun _ _ hb he hd => ob_on 87 rfl (by kernel_rfl) hd.1 (gives_call2 _ _ _ _ rfl call_mul (mul_v hd.2.1.rw hd.2.2.1.rw (by omega)))
    · exact fun _ _ hb he hd => ob_on 87 rfl (by kernel_rfl) hd.1 (load_qb rfl he.2.2.1 (Qb.new Qx_.out hb))
    · exact fun _ _ hb he hd => ob_on 87 rfl (by kernel_rfl) hd.1 (load_qb rfl he.2.2.2.1 (Qb.new Qy_.out hb))
    · exact fun _ _ hb he hd => ob_on 87 rfl (by kernel_rfl) hd.1 (gives_call2 _ _ _ _ rfl call_rmul (rmul_v SX.out SY.out _ _ hd.2.1 hd.2.2.1 _))
    · exact fun _ _ hb he hd => ob_on 87 rfl (by kernel_rfl) hd.1 (gives_call2 _ _ _ _ rfl call_is (is_v hd.2.1 hd.2.2.1 (rfl) (SX.out.mul_le SY.out)))
    · exact fun _ _ hb he hd => ob_plain rfl (gives_pick true _ _ _ rfl hd.1 ⟨hd.2.1, Below.refl _ _⟩)
    · exact fun _ _ hb he hd => ob_plain rfl (gives_move _ rfl ⟨hd.1, Below.refl _ _⟩)
    · exact fun _ _ hb he hd => ob_on 96 rfl (by kernel_rfl) hd.1 (load_bn rfl he.2.1 (Bn.new By_.out hb))
    · exact fun _ _ hb he hd => ob_on 96 rfl (by kernel_rfl) hd.1 (gives_call1 _ _ _ rfl call_neg (neg_v hd.2.1.rw (by omega)))
    · exact fun _ _ hb he hd => ob_on 96 rfl (by kernel_rfl) hd.1 (load_qb rfl he.2.2.2.2.1 (Qb.new Qn_.out hb))
    · exact fun _ _ hb he hd => ob_on 96 rfl (by kernel_rfl) hd.1 (gives_call2 _ _ _ _ rfl call_is (is_v hd.2.1 hd.2.2.1 (rfl) (SN.out.le)))
    · exact fun _ _ hb he hd => ob_plain rfl (gives_pick true _ _ _ rfl hd.1 ⟨hd.2.1, Below.refl _ _⟩)
    · exact fun _ _ hb he hd => ob_plain rfl (gives_move _ rfl ⟨hd.1, Below.refl _ _⟩)
    · exact fun _ _ hb he hd => ob_on 102 rfl (by kernel_rfl) hd.1 (load_bn rfl he.1 (Bn.new Bx_.out hb))
    · exact fun _ _ hb he hd => ob_on 102 rfl (by kernel_rfl) hd.1 (load_bn rfl he.2.1 (Bn.new By_.out hb))
    · exact fun _ _ hb he hd => ob_on 102 rfl (by kernel_rfl) hd.1 (gives_call2 _ _ _ _ rfl call_cmp (cmp_v hd.2.1.rw hd.2.2.1.rw (by omega)))
    · exact fun _ _ hb he hd => ob_on 102 rfl (by kernel_rfl) hd.1 (load_qb rfl he.2.2.1 (Qb.new Qx_.out hb))
    · exact fun _ _ hb he hd => ob_on 102 rfl (by kernel_rfl) hd.1 (load_qb rfl he.2.2.2.1 (Qb.new Qy_.out hb))
    · exact fun _ _ hb he hd => ob_on 102 rfl (by kernel_rfl) hd.1 (gives_call2 _ _ _ _ rfl call_rcmp (rcmp_v SX.out SY.out _ _ hd.2.1 hd.2.2.1 _))
    · exact fun _ _ hb he hd => ob_on 102 rfl (by kernel_rfl) hd.1 (gives_eq_int (rcq (x) (y)) (rcq x y) .i64 _ _ _ _ rfl hd.2.1 hd.2.2.1 ⟨congrArg Value.bool (by simp), Below.refl _ _⟩)
    · exact fun _ _ hb he hd => ob_plain rfl (gives_pick true _ _ _ rfl hd.1 ⟨hd.2.1, Below.refl _ _⟩)
    · exact fun _ _ hb he hd => ob_plain rfl (gives_move _ rfl ⟨hd.1, Below.refl _ _⟩)
    · exact fun _ _ hb he hd => ob_on 111 rfl (by kernel_rfl) hd.1 (load_bn rfl he.1 (Bn.new Bx_.out hb))
    · exact fun _ _ hb he hd => ob_on 111 rfl (by kernel_rfl) hd.1 (gives_call1 _ _ _ rfl call_sign (sign_v hd.2.1.rw))
    · exact fun _ _ hb he hd => ob_on 111 rfl (by kernel_rfl) hd.1 (load_qb rfl he.2.2.1 (Qb.new Qx_.out hb))
    · exact fun _ _ hb he hd => ob_on 111 rfl (by kernel_rfl) hd.1 (gives_call2 _ _ _ _ rfl call_low (low_v (0) (1) (by omega) (by omega) (by omega) (by omega) (by omega) _ _ rfl rfl _))
    · exact fun _ _ hb he hd => ob_on 111 rfl (by kernel_rfl) hd.1 (gives_call2 _ _ _ _ rfl call_rcmp (rcmp_v SX.out sm_zeroq _ _ hd.2.1 hd.2.2.1 _))
    · exact fun _ _ hb he hd => ob_on 111 rfl (by kernel_rfl) hd.1 (gives_eq_int ((x).num.sign) (rcq x zeroq) .i64 _ _ _ _ rfl hd.2.1 hd.2.2.1 ⟨congrArg Value.bool (by rw [zeroq_eq, rcq_zero]; simp), Below.refl _ _⟩)
    · exact fun _ _ hb he hd => ob_plain rfl (gives_pick true _ _ _ rfl hd.1 ⟨hd.2.1, Below.refl _ _⟩)
    · exact fun _ _ hb he hd => ob_plain rfl (gives_move _ rfl ⟨hd.1, Below.refl _ _⟩)
    · exact fun _ _ hb he hd => ob_on 119 rfl (by kernel_rfl) hd.1 (gives_call0 _ _ rfl call_awake (awake_v _))
    · exact fun _ _ hb he hd => ob_plain rfl (gives_pick true _ _ _ rfl hd.1 ⟨hd.2.1, Below.refl _ _⟩)
    · exact fun _ _ hb he hd => ob_plain rfl (gives_assign _ rfl ⟨hd.1, Below.refl _ _⟩)
  intro vs w14 hb hR
  have e4 : vs 51 = .bool true := hR 51 (by decide)
  clear hR
  simp only [putsL, Nat.zero_add, Nat.reduceAdd, List.take_succ_cons, List.take_zero, Act.put, List.setIfInBounds_toArray, List.set_cons_zero, List.set_cons_succ]
  rw [e4]
  clear e4
  replace HW := Lib.hid (bthen HW.out hb HW.out.size)
  go_wp2_with fail
  go_ret
  exact ⟨rfl, HW.out⟩
theorem ratCounts_walk (a b c d : Int) (w : World) {p1 p2 p3 p4 : Prop} (_ : p1) (_ : p2) (_ : p3) (_ : p4) : Calls Try.prog 7 #[.agg #[.int .i64 a, .int .i64 b, .int .i64 c, .int .i64 d]] w fun e w' => e = .returned (.bool true) ∧ Below w.heap.size w w' := by
  by_cases hw : winB a b c d = true
  · by_cases hb : ((c : Int) : Rat) / ((den1 d : Int) : Rat) = 0
    · exact counts_z a b c d w hw (Lib.hid hb)
    · exact counts_n a b c d w hw (Lib.hid hb)
  · exact counts_far a b c d w (by simpa using hw)
end Go.Proofs.Ytifnbpkcnkfanaa
