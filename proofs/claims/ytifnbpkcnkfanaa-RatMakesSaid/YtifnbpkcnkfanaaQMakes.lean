/-
  The walk of RatMakes.
-/
import Derived.Test.YtifnbpkcnkfanaaQX
namespace Go.Proofs.Ytifnbpkcnkfanaa
open Go.RowKit
set_option linter.unusedSimpArgs false

set_option maxRecDepth 100000 in
set_option maxHeartbeats 4000000 in
theorem makes_far (a b c d : Int) (x : Nat) (w : World) (h : winB a b c d = false) : Calls Try.prog 3 #[.agg #[.int .i64 a, .int .i64 b, .int .i64 c, .int .i64 d], .int .u32 x] w fun e w' => e = .returned (.bool true) ∧ Below w.heap.size w w' := by
  have HN := Lib.hid h; clear h
  have HA : Hid (A4 (w.alloc (.cells #[.int .i64 a, .int .i64 b, .int .i64 c, .int .i64 d] 22)) w.heap.size a b c d) := Lib.hid (Blk.new w _ _)
  have c0 := HA.out.c0; have c1 := HA.out.c1; have c2 := HA.out.c2; have c3 := HA.out.c3
  go_enter Try.func3, Try.ntmps3
  go_wp2_with fail
  refine within_any.mono ?_
  rintro e w1 ⟨rfl, hb⟩
  rw [HN.out]
  have HW := Lib.hid (bthen (al w _) hb (al w _).size); clear hb c0 c1 c2 c3
  go_wp2_with fail
  refine (qawake_any _).mono ?_
  rintro e w2 ⟨rfl, hb⟩
  replace HW := Lib.hid (bthen HW.out hb HW.out.size); clear hb
  go_wp2_with fail
  go_ret
  exact ⟨rfl, HW.out⟩
set_option maxRecDepth 100000 in
set_option maxHeartbeats 8000000 in
theorem makes_b0 (a b c d : Int) (x : Nat) (_hx : x < 4294967296) (w : World) (h : winB a b c d = true) (hb0 : b = 0) : Calls Try.prog 3 #[.agg #[.int .i64 a, .int .i64 b, .int .i64 c, .int .i64 d], .int .u32 x] w fun e w' => e = .returned (.bool true) ∧ Below w.heap.size w w' := by
  have hwin := of_decide_eq_true h
  obtain ⟨⟨wa1, wa2⟩, ⟨wb1, wb2⟩, ⟨wc1, wc2⟩, ⟨wd1, wd2⟩⟩ := hwin
  have HN := Lib.hid h; have HB0 := Lib.hid hb0; clear h hb0
  have HA : Hid (A4 (w.alloc (.cells #[.int .i64 a, .int .i64 b, .int .i64 c, .int .i64 d] 22)) w.heap.size a b c d) := Lib.hid (Blk.new w _ _)
  have c0 := HA.out.c0; have c1 := HA.out.c1; have c2 := HA.out.c2; have c3 := HA.out.c3
  go_enter Try.func3, Try.ntmps3
  go_wp2_with fail
  refine within_any.mono ?_
  rintro e w1 ⟨rfl, hb⟩
  rw [HN.out]
  replace HA := Lib.hid (HA.out.new hb)
  have HW := Lib.hid (bthen (al w _) hb (al w _).size); clear hb c0 c1 c2 c3
  have c0 := HA.out.c0; have c1 := HA.out.c1; have c2 := HA.out.c2; have c3 := HA.out.c3
  go_wp2_with fail
  refine (qof_any a b (by omega) (by omega) (by omega) (by omega)).mono ?_
  rintro e w2 hof
  clear c0 c1 c2 c3
  obtain ⟨rfl, hb⟩ := hof.1 HB0.out
  clear hof
  replace HA := Lib.hid (HA.out.new hb)
  replace HW := Lib.hid (bthen HW.out hb HW.out.size); clear hb
  have tb : (b == 0) = true := by simp [HB0.out]
  have c1 := (HA.out.new (al w2 (.cells #[.bool false, .slice none 0 0, .slice none 0 0] 29))).c1
  go_upto_region 5 with (fail)
  have hT := TB.made w2 29 (.bool false) (.slice none 0 0) (.slice none 0 0)
  have hW := al w2 (.cells #[.bool false, .slice none 0 0, .slice none 0 0] 29)
  clear c1
  generalize w2.alloc (.cells #[.bool false, .slice none 0 0, .slice none 0 0] 29) = w12 at hT hW ⊢
  replace HA := Lib.hid (HA.out.new hW); replace HW := Lib.hid (bthen HW.out hW HW.out.size)
  have a0 := hT.c0; have a1 := hT.c1; have a2 := hT.c2; have la := hT.lt
  clear hT hW
  go_upto_region 9 with (fail)
  clear a0 a1 a2 la HB0 tb
  have c2 := HA.out.c2; have c3 := HA.out.c3
  obtain ⟨y, hy⟩ : ∃ y, y = x % 1048576 := ⟨_, rfl⟩
  have ey : (x : Int) % 1048576 = (y : Int) := by omega
  have hyl : y < 1048576 := by omega
  clear hy
  by_cases hc : c < 0
  · have tc : decide (c < 0) = true := by simp; omega
    obtain ⟨k, hk⟩ : ∃ k : Nat, -c = (k : Int) := ⟨c.natAbs, by omega⟩
    have k1 : k ≤ 1048576 := by omega
    by_cases hy0 : y = 0
    · have ty : ((y : Int) == 0) = true := by simp [hy0]
      have HEQ := Lib.hid (show qv true k y = ((c : Int) : Rat) / ((1 : Int) : Rat) by
        have := qv_frac c 1 (by omega)
        rw [show decide (c < 0) = true by simp; omega, show decide ((1 : Int) < 0) = false by simp, show (true != false) = true from rfl] at this
        rw [← this, show c.natAbs = k by omega]; rw [hy0, qv_den0]; rfl)
      have hcc : c ≤ 0 := by omega
      clear hc hy0
      go_upto_region 16 with (fail)
      obtain ⟨BR, hW⟩ := raw_world w12 true k y (by omega) (by omega)
      generalize ((w12.alloc (.cells #[.int .u32 (k : Int), .int .u32 0, .int .u32 0] 23)).alloc (.cells #[.int .u32 (y : Int), .int .u32 0] 23)).alloc (.cells #[.bool true, .slice (some ⟨w12.heap.size, 0, none⟩) 3 3, .slice (some ⟨w12.heap.size + 1, 0, none⟩) 2 2] 29) = w9 at BR hW ⊢
      clear c2 c3
      replace HA := Lib.hid (HA.out.new hW); replace HW := Lib.hid (bthen HW.out hW HW.out.size)
      replace BR := Lib.hid BR
      clear hW
      refine wp_region_each (kss := [[], [(0, 74)], [(1, 75)], [], [(3, 77)], [(4, 78)], [(2, 76), (5, 79)], [(6, 80)], [(7, 81)], [(7, 81), (8, 82)], [(7, 81), (9, 83)], [(7, 81), (10, 84)], [(7, 81)], [(7, 81), (12, 86)], [(7, 81), (11, 85), (13, 87)], [(7, 81), (14, 88)], [(15, 89)], [(16, 90)], [(16, 90), (17, 91)], [(16, 90)], [(16, 90), (19, 93)], [(16, 90)], [(16, 90), (20, 94), (21, 95)], [(16, 90), (18, 92), (22, 96)], [(16, 90), (23, 97)], [(24, 98)], [(25, 99)], [(25, 99), (26, 100)], [(25, 99)], [(25, 99), (27, 101), (28, 102)], [(25, 99), (29, 103)], [(30, 104)], [(31, 105)], [(31, 105), (32, 106)], [(33, 107)]]) [(2, .pointer (some ⟨w.heap.size, 0, none⟩)), (7, .int .i64 ((k : Int))), (8, .pointer (some ⟨w12.heap.size + 2, 0, none⟩)), (9, .int .i64 (1))] [fun v _ => v = .pointer (some ⟨w.heap.size, 3, none⟩), fun v _ => v = .int .i64 (d), Rv 2 (((d : Int) : Rat)), fun v _ => v = .pointer (some ⟨w.heap.size, 3, none⟩), fun v _ => v = .int .i64 (d), fun v _ => v = QL (((d : Int) : Rat) / ((1 : Int) : Rat)), fun v _ => v = .bool (true), fun v _ => v = .bool (true), fun v _ => v = .int .i64 ((k : Int)), fun v _ => v = .int .u64 ((k : Int)), Nv 2 k, Rv 2 ((k : Nat)), fun v _ => v = .int .i64 ((k : Int)), fun v _ => v = QL ((((k : Int) : Int) : Rat) / ((1 : Int) : Rat)), fun v _ => v = .bool (true), fun v _ => v = .bool (true), fun v _ => v = .bool (true), Rw 3 (qv true k y), Rv 3 (qv true k y), fun v _ => v = .pointer (some ⟨w.heap.size, 2, none⟩), fun v _ => v = .int .i64 (c), fun v _ => v = .int .i64 (1), fun v _ => v = QL (((c : Int) : Rat) / ((1 : Int) : Rat)), fun v _ => v = .bool (true), fun v _ => v = .bool (true), fun v _ => v = .bool (true), Rw 1 (0), Rv 1 (0), fun v _ => v = QL (((0 : Int) : Rat) / ((1 : Int) : Rat)), fun v _ => v = .bool (true), fun v _ => v = .bool (true), fun v _ => v = .bool (true), fun v _ => v = .bool (true), fun v _ => v = .bool (true), fun v _ => v = .bool (true)] (by kernel_rfl) (by kernel_rfl) ⟨rfl, rfl, rfl, rfl, trivial⟩ ?_ ?_ ?_
      · exact ⟨fun _ _ _ h _ => h, fun _ _ _ h _ => h, fun _ _ _ h hb => Rv.new h hb, fun _ _ _ h _ => h, fun _ _ _ h _ => h, fun _ _ _ h _ => h, fun _ _ _ h _ => h, fun _ _ _ h _ => h, fun _ _ _ h _ => h, fun _ _ _ h _ => h, fun _ _ _ h hb => Nv.new h hb, fun _ _ _ h hb => Rv.new h hb, fun _ _ _ h _ => h, fun _ _ _ h _ => h, fun _ _ _ h _ => h, fun _ _ _ h _ => h, fun _ _ _ h _ => h, fun _ _ _ h hb => Rw.new h hb, fun _ _ _ h hb => Rv.new h hb, fun _ _ _ h _ => h, fun _ _ _ h _ => h, fun _ _ _ h _ => h, fun _ _ _ h _ => h, fun _ _ _ h _ => h, fun _ _ _ h _ => h, fun _ _ _ h _ => h, fun _ _ _ h hb => Rw.new h hb, fun _ _ _ h hb => Rv.new h hb, fun _ _ _ h _ => h, fun _ _ _ h _ => h, fun _ _ _ h _ => h, fun _ _ _ h _ => h, fun _ _ _ h _ => h, fun _ _ _ h _ => h, fun _ _ _ h _ => h, trivial⟩
      · refine ⟨?_, ?_, ?_, ?_, ?_, ?_, ?_, ?_, ?_, ?_, ?_, ?_, ?_, ?_, ?_, ?_, ?_, ?_, ?_, ?_, ?_, ?_, ?_, ?_, ?_, ?_, ?_, ?_, ?_, ?_, ?_, ?_, ?_, ?_, ?_, trivial⟩
        · exact fun _ _ hb he hd => ob_plain rfl (idx_3 rfl he.1)
        · exact fun _ _ hb he hd => ob_plain rfl (load_i64 rfl hd.1 (A4.new HA.out hb).c3)
        · exact fun _ _ hb he hd => ob_plain rfl (gives_call1 _ _ _ rfl call_int (int_w (d) (by omega) (by omega) _ hd.1 _))
        · exact fun _ _ hb he hd => ob_plain rfl (idx_3 rfl he.1)
        · exact fun _ _ hb he hd => ob_plain rfl (load_i64 rfl hd.1 (A4.new HA.out hb).c3)
        · exact fun _ _ hb he hd => ob_plain rfl (gives_call2 _ _ _ _ rfl call_low (low_v (d) (1) (by omega) (by omega) (by omega) (by omega) (by omega) _ _ hd.1 rfl _))
        · exact fun _ _ hb he hd => ob_plain rfl (gives_call2 _ _ _ _ rfl call_is (is_v hd.1 hd.2.1 ((one_div _).symm) (by have := frac_le d 1 (by omega); omega)))
        · exact fun _ _ hb he hd => ob_plain rfl (gives_move _ rfl ⟨hd.1, Below.refl _ _⟩)
        · exact fun _ _ hb he hd => ob_on 81 rfl (by kernel_rfl) hd.1 (gives_move _ rfl ⟨he.2.1, Below.refl _ _⟩)
        · exact fun _ _ hb he hd => ob_on 81 rfl (by kernel_rfl) hd.1 (conv_u64 (by omega) rfl hd.2.1)
        · exact fun _ _ hb he hd => ob_on 81 rfl (by kernel_rfl) hd.1 (gives_call1 _ _ _ rfl call_nof (nof_v k (by omega) _ hd.2.1 _))
        · exact fun _ _ hb he hd => ob_on 81 rfl (by kernel_rfl) hd.1 (gives_call1 _ _ _ rfl call_fromnat (fromnat_v hd.2.1 (by omega)))
        · exact fun _ _ hb he hd => ob_on 81 rfl (by kernel_rfl) hd.1 (gives_move _ rfl ⟨he.2.1, Below.refl _ _⟩)
        · exact fun _ _ hb he hd => ob_on 81 rfl (by kernel_rfl) hd.1 (gives_call2 _ _ _ _ rfl call_low (low_v ((k : Int)) (1) (by omega) (by omega) (by omega) (by omega) (by omega) _ _ hd.2.1 rfl _))
        · exact fun _ _ hb he hd => ob_on 81 rfl (by kernel_rfl) hd.1 (gives_call2 _ _ _ _ rfl call_is (is_v hd.2.1 hd.2.2.1 (by rw [one_div, Rat.intCast_natCast]) (by have := frac_le (k : Int) 1 (by omega); omega)))
        · exact fun _ _ hb he hd => ob_plain rfl (gives_pick true _ _ _ rfl hd.1 ⟨hd.2.1, Below.refl _ _⟩)
        · exact fun _ _ hb he hd => ob_plain rfl (gives_move _ rfl ⟨hd.1, Below.refl _ _⟩)
        · exact fun _ _ hb he hd => ob_on 90 rfl (by kernel_rfl) hd.1 (load_bx rfl he.2.2.1 (Bx.new BR.out hb))
        · exact fun _ _ hb he hd => ob_on 90 rfl (by kernel_rfl) hd.1 (gives_call1 _ _ _ rfl call_norm (norm_v hd.2.1 (by omega)))
        · exact fun _ _ hb he hd => ob_on 90 rfl (by kernel_rfl) hd.1 (idx_2 rfl he.1)
        · exact fun _ _ hb he hd => ob_on 90 rfl (by kernel_rfl) hd.1 (load_i64 rfl hd.2.1 (A4.new HA.out hb).c2)
        · exact fun _ _ hb he hd => ob_on 90 rfl (by kernel_rfl) hd.1 (gives_move _ rfl ⟨he.2.2.2.1, Below.refl _ _⟩)
        · exact fun _ _ hb he hd => ob_on 90 rfl (by kernel_rfl) hd.1 (gives_call2 _ _ _ _ rfl call_low (low_v (c) (1) (by omega) (by omega) (by omega) (by omega) (by omega) _ _ hd.2.1 hd.2.2.1 _))
        · exact fun _ _ hb he hd => ob_on 90 rfl (by kernel_rfl) hd.1 (gives_call2 _ _ _ _ rfl call_is (is_v hd.2.1 hd.2.2.1 (HEQ.out) (by have := frac_le c 1 (by omega); omega)))
        · exact fun _ _ hb he hd => ob_plain rfl (gives_pick true _ _ _ rfl hd.1 ⟨hd.2.1, Below.refl _ _⟩)
        · exact fun _ _ hb he hd => ob_plain rfl (gives_move _ rfl ⟨hd.1, Below.refl _ _⟩)
        · exact fun _ _ hb he hd => ob_on 99 rfl (by kernel_rfl) hd.1 (build_zero rfl)
        · exact fun _ _ hb he hd => ob_on 99 rfl (by kernel_rfl) hd.1 (gives_call1 _ _ _ rfl call_norm (norm_v hd.2.1 (by omega)))
        · exact fun _ _ hb he hd => ob_on 99 rfl (by kernel_rfl) hd.1 (gives_call2 _ _ _ _ rfl call_low (low_v (0) (1) (by omega) (by omega) (by omega) (by omega) (by omega) _ _ rfl rfl _))
        · exact fun _ _ hb he hd => ob_on 99 rfl (by kernel_rfl) hd.1 (gives_call2 _ _ _ _ rfl call_is (is_v hd.2.1 hd.2.2.1 (by rw [one_div]; rfl) (by have := frac_le 0 1 (by omega); omega)))
        · exact fun _ _ hb he hd => ob_plain rfl (gives_pick true _ _ _ rfl hd.1 ⟨hd.2.1, Below.refl _ _⟩)
        · exact fun _ _ hb he hd => ob_plain rfl (gives_move _ rfl ⟨hd.1, Below.refl _ _⟩)
        · exact fun _ _ hb he hd => ob_on 105 rfl (by kernel_rfl) hd.1 (gives_call0 _ _ rfl call_awake (awake_v _))
        · exact fun _ _ hb he hd => ob_plain rfl (gives_pick true _ _ _ rfl hd.1 ⟨hd.2.1, Below.refl _ _⟩)
        · exact fun _ _ hb he hd => ob_plain rfl (gives_assign _ rfl ⟨hd.1, Below.refl _ _⟩)
      intro vs w20 hb hR
      have e4 : vs 34 = .bool true := hR 34 (by decide)
      clear hR
      simp only [putsL, Nat.zero_add, Nat.reduceAdd, List.take_succ_cons, List.take_zero, Act.put, List.setIfInBounds_toArray, List.set_cons_zero, List.set_cons_succ]
      rw [e4]
      clear e4
      replace HW := Lib.hid (bthen HW.out hb HW.out.size)
      go_wp2_with fail
      go_ret
      exact ⟨rfl, HW.out⟩
    · have ty : ((y : Int) == 0) = false := by simp; omega
      have HEQ := Lib.hid (show qv true k y = ((c : Int) : Rat) / (((y : Int) : Int) : Rat) by
        have := qv_frac c (y : Int) (by omega)
        rw [show decide (c < 0) = true by simp; omega, show decide (((y : Int) : Int) < 0) = false by simp, show (true != false) = true from rfl] at this
        rw [← this, show c.natAbs = k by omega]; rfl)
      have hcc : c ≤ 0 := by omega
      clear hc
      go_upto_region 16 with (fail)
      obtain ⟨BR, hW⟩ := raw_world w12 true k y (by omega) (by omega)
      generalize ((w12.alloc (.cells #[.int .u32 (k : Int), .int .u32 0, .int .u32 0] 23)).alloc (.cells #[.int .u32 (y : Int), .int .u32 0] 23)).alloc (.cells #[.bool true, .slice (some ⟨w12.heap.size, 0, none⟩) 3 3, .slice (some ⟨w12.heap.size + 1, 0, none⟩) 2 2] 29) = w9 at BR hW ⊢
      clear c2 c3
      replace HA := Lib.hid (HA.out.new hW); replace HW := Lib.hid (bthen HW.out hW HW.out.size)
      replace BR := Lib.hid BR
      clear hW
      refine wp_region_each (kss := [[], [(0, 74)], [(1, 75)], [], [(3, 77)], [(4, 78)], [(2, 76), (5, 79)], [(6, 80)], [(7, 81)], [(7, 81), (8, 82)], [(7, 81), (9, 83)], [(7, 81), (10, 84)], [(7, 81)], [(7, 81), (12, 86)], [(7, 81), (11, 85), (13, 87)], [(7, 81), (14, 88)], [(15, 89)], [(16, 90)], [(16, 90), (17, 91)], [(16, 90)], [(16, 90), (19, 93)], [(16, 90)], [(16, 90), (20, 94), (21, 95)], [(16, 90), (18, 92), (22, 96)], [(16, 90), (23, 97)], [(24, 98)], [(25, 99)], [(25, 99), (26, 100)], [(25, 99)], [(25, 99), (27, 101), (28, 102)], [(25, 99), (29, 103)], [(30, 104)], [(31, 105)], [(31, 105), (32, 106)], [(33, 107)]]) [(2, .pointer (some ⟨w.heap.size, 0, none⟩)), (7, .int .i64 ((k : Int))), (8, .pointer (some ⟨w12.heap.size + 2, 0, none⟩)), (9, .int .i64 ((y : Int)))] [fun v _ => v = .pointer (some ⟨w.heap.size, 3, none⟩), fun v _ => v = .int .i64 (d), Rv 2 (((d : Int) : Rat)), fun v _ => v = .pointer (some ⟨w.heap.size, 3, none⟩), fun v _ => v = .int .i64 (d), fun v _ => v = QL (((d : Int) : Rat) / ((1 : Int) : Rat)), fun v _ => v = .bool (true), fun v _ => v = .bool (true), fun v _ => v = .int .i64 ((k : Int)), fun v _ => v = .int .u64 ((k : Int)), Nv 2 k, Rv 2 ((k : Nat)), fun v _ => v = .int .i64 ((k : Int)), fun v _ => v = QL ((((k : Int) : Int) : Rat) / ((1 : Int) : Rat)), fun v _ => v = .bool (true), fun v _ => v = .bool (true), fun v _ => v = .bool (true), Rw 3 (qv true k y), Rv 3 (qv true k y), fun v _ => v = .pointer (some ⟨w.heap.size, 2, none⟩), fun v _ => v = .int .i64 (c), fun v _ => v = .int .i64 ((y : Int)), fun v _ => v = QL (((c : Int) : Rat) / (((y : Int) : Int) : Rat)), fun v _ => v = .bool (true), fun v _ => v = .bool (true), fun v _ => v = .bool (true), Rw 1 (0), Rv 1 (0), fun v _ => v = QL (((0 : Int) : Rat) / ((1 : Int) : Rat)), fun v _ => v = .bool (true), fun v _ => v = .bool (true), fun v _ => v = .bool (true), fun v _ => v = .bool (true), fun v _ => v = .bool (true), fun v _ => v = .bool (true)] (by kernel_rfl) (by kernel_rfl) ⟨rfl, rfl, rfl, rfl, trivial⟩ ?_ ?_ ?_
      · exact ⟨fun _ _ _ h _ => h, fun _ _ _ h _ => h, fun _ _ _ h hb => Rv.new h hb, fun _ _ _ h _ => h, fun _ _ _ h _ => h, fun _ _ _ h _ => h, fun _ _ _ h _ => h, fun _ _ _ h _ => h, fun _ _ _ h _ => h, fun _ _ _ h _ => h, fun _ _ _ h hb => Nv.new h hb, fun _ _ _ h hb => Rv.new h hb, fun _ _ _ h _ => h, fun _ _ _ h _ => h, fun _ _ _ h _ => h, fun _ _ _ h _ => h, fun _ _ _ h _ => h, fun _ _ _ h hb => Rw.new h hb, fun _ _ _ h hb => Rv.new h hb, fun _ _ _ h _ => h, fun _ _ _ h _ => h, fun _ _ _ h _ => h, fun _ _ _ h _ => h, fun _ _ _ h _ => h, fun _ _ _ h _ => h, fun _ _ _ h _ => h, fun _ _ _ h hb => Rw.new h hb, fun _ _ _ h hb => Rv.new h hb, fun _ _ _ h _ => h, fun _ _ _ h _ => h, fun _ _ _ h _ => h, fun _ _ _ h _ => h, fun _ _ _ h _ => h, fun _ _ _ h _ => h, fun _ _ _ h _ => h, trivial⟩
      · refine ⟨?_, ?_, ?_, ?_, ?_, ?_, ?_, ?_, ?_, ?_, ?_, ?_, ?_, ?_, ?_, ?_, ?_, ?_, ?_, ?_, ?_, ?_, ?_, ?_, ?_, ?_, ?_, ?_, ?_, ?_, ?_, ?_, ?_, ?_, ?_, trivial⟩
        · exact fun _ _ hb he hd => ob_plain rfl (idx_3 rfl he.1)
        · exact fun _ _ hb he hd => ob_plain rfl (load_i64 rfl hd.1 (A4.new HA.out hb).c3)
        · exact fun _ _ hb he hd => ob_plain rfl (gives_call1 _ _ _ rfl call_int (int_w (d) (by omega) (by omega) _ hd.1 _))
        · exact fun _ _ hb he hd => ob_plain rfl (idx_3 rfl he.1)
        · exact fun _ _ hb he hd => ob_plain rfl (load_i64 rfl hd.1 (A4.new HA.out hb).c3)
        · exact fun _ _ hb he hd => ob_plain rfl (gives_call2 _ _ _ _ rfl call_low (low_v (d) (1) (by omega) (by omega) (by omega) (by omega) (by omega) _ _ hd.1 rfl _))
        · exact fun _ _ hb he hd => ob_plain rfl (gives_call2 _ _ _ _ rfl call_is (is_v hd.1 hd.2.1 ((one_div _).symm) (by have := frac_le d 1 (by omega); omega)))
        · exact fun _ _ hb he hd => ob_plain rfl (gives_move _ rfl ⟨hd.1, Below.refl _ _⟩)
        · exact fun _ _ hb he hd => ob_on 81 rfl (by kernel_rfl) hd.1 (gives_move _ rfl ⟨he.2.1, Below.refl _ _⟩)
        · exact fun _ _ hb he hd => ob_on 81 rfl (by kernel_rfl) hd.1 (conv_u64 (by omega) rfl hd.2.1)
        · exact fun _ _ hb he hd => ob_on 81 rfl (by kernel_rfl) hd.1 (gives_call1 _ _ _ rfl call_nof (nof_v k (by omega) _ hd.2.1 _))
        · exact fun _ _ hb he hd => ob_on 81 rfl (by kernel_rfl) hd.1 (gives_call1 _ _ _ rfl call_fromnat (fromnat_v hd.2.1 (by omega)))
        · exact fun _ _ hb he hd => ob_on 81 rfl (by kernel_rfl) hd.1 (gives_move _ rfl ⟨he.2.1, Below.refl _ _⟩)
        · exact fun _ _ hb he hd => ob_on 81 rfl (by kernel_rfl) hd.1 (gives_call2 _ _ _ _ rfl call_low (low_v ((k : Int)) (1) (by omega) (by omega) (by omega) (by omega) (by omega) _ _ hd.2.1 rfl _))
        · exact fun _ _ hb he hd => ob_on 81 rfl (by kernel_rfl) hd.1 (gives_call2 _ _ _ _ rfl call_is (is_v hd.2.1 hd.2.2.1 (by rw [one_div, Rat.intCast_natCast]) (by have := frac_le (k : Int) 1 (by omega); omega)))
        · exact fun _ _ hb he hd => ob_plain rfl (gives_pick true _ _ _ rfl hd.1 ⟨hd.2.1, Below.refl _ _⟩)
        · exact fun _ _ hb he hd => ob_plain rfl (gives_move _ rfl ⟨hd.1, Below.refl _ _⟩)
        · exact fun _ _ hb he hd => ob_on 90 rfl (by kernel_rfl) hd.1 (load_bx rfl he.2.2.1 (Bx.new BR.out hb))
        · exact fun _ _ hb he hd => ob_on 90 rfl (by kernel_rfl) hd.1 (gives_call1 _ _ _ rfl call_norm (norm_v hd.2.1 (by omega)))
        · exact fun _ _ hb he hd => ob_on 90 rfl (by kernel_rfl) hd.1 (idx_2 rfl he.1)
        · exact fun _ _ hb he hd => ob_on 90 rfl (by kernel_rfl) hd.1 (load_i64 rfl hd.2.1 (A4.new HA.out hb).c2)
        · exact fun _ _ hb he hd => ob_on 90 rfl (by kernel_rfl) hd.1 (gives_move _ rfl ⟨he.2.2.2.1, Below.refl _ _⟩)
        · exact fun _ _ hb he hd => ob_on 90 rfl (by kernel_rfl) hd.1 (gives_call2 _ _ _ _ rfl call_low (low_v (c) ((y : Int)) (by omega) (by omega) (by omega) (by omega) (by omega) _ _ hd.2.1 hd.2.2.1 _))
        · exact fun _ _ hb he hd => ob_on 90 rfl (by kernel_rfl) hd.1 (gives_call2 _ _ _ _ rfl call_is (is_v hd.2.1 hd.2.2.1 (HEQ.out) (by have := frac_le c (y : Int) (by omega); omega)))
        · exact fun _ _ hb he hd => ob_plain rfl (gives_pick true _ _ _ rfl hd.1 ⟨hd.2.1, Below.refl _ _⟩)
        · exact fun _ _ hb he hd => ob_plain rfl (gives_move _ rfl ⟨hd.1, Below.refl _ _⟩)
        · exact fun _ _ hb he hd => ob_on 99 rfl (by kernel_rfl) hd.1 (build_zero rfl)
        · exact fun _ _ hb he hd => ob_on 99 rfl (by kernel_rfl) hd.1 (gives_call1 _ _ _ rfl call_norm (norm_v hd.2.1 (by omega)))
        · exact fun _ _ hb he hd => ob_on 99 rfl (by kernel_rfl) hd.1 (gives_call2 _ _ _ _ rfl call_low (low_v (0) (1) (by omega) (by omega) (by omega) (by omega) (by omega) _ _ rfl rfl _))
        · exact fun _ _ hb he hd => ob_on 99 rfl (by kernel_rfl) hd.1 (gives_call2 _ _ _ _ rfl call_is (is_v hd.2.1 hd.2.2.1 (by rw [one_div]; rfl) (by have := frac_le 0 1 (by omega); omega)))
        · exact fun _ _ hb he hd => ob_plain rfl (gives_pick true _ _ _ rfl hd.1 ⟨hd.2.1, Below.refl _ _⟩)
        · exact fun _ _ hb he hd => ob_plain rfl (gives_move _ rfl ⟨hd.1, Below.refl _ _⟩)
        · exact fun _ _ hb he hd => ob_on 105 rfl (by kernel_rfl) hd.1 (gives_call0 _ _ rfl call_awake (awake_v _))
        · exact fun _ _ hb he hd => ob_plain rfl (gives_pick true _ _ _ rfl hd.1 ⟨hd.2.1, Below.refl _ _⟩)
        · exact fun _ _ hb he hd => ob_plain rfl (gives_assign _ rfl ⟨hd.1, Below.refl _ _⟩)
      intro vs w20 hb hR
      have e4 : vs 34 = .bool true := hR 34 (by decide)
      clear hR
      simp only [putsL, Nat.zero_add, Nat.reduceAdd, List.take_succ_cons, List.take_zero, Act.put, List.setIfInBounds_toArray, List.set_cons_zero, List.set_cons_succ]
      rw [e4]
      clear e4
      replace HW := Lib.hid (bthen HW.out hb HW.out.size)
      go_wp2_with fail
      go_ret
      exact ⟨rfl, HW.out⟩
  · have tc : decide (c < 0) = false := by simp; omega
    obtain ⟨k, hk⟩ : ∃ k : Nat, c = (k : Int) := ⟨c.natAbs, by omega⟩
    have k1 : k ≤ 1048576 := by omega
    by_cases hy0 : y = 0
    · have ty : ((y : Int) == 0) = true := by simp [hy0]
      have HEQ := Lib.hid (show qv false k y = ((c : Int) : Rat) / ((1 : Int) : Rat) by
        have := qv_frac c 1 (by omega)
        rw [show decide (c < 0) = false by simp; omega, show decide ((1 : Int) < 0) = false by simp, show (false != false) = false from rfl] at this
        rw [← this, show c.natAbs = k by omega]; rw [hy0, qv_den0]; rfl)
      subst hk
      clear hc hy0
      go_upto_region 16 with (fail)
      obtain ⟨BR, hW⟩ := raw_world w12 false k y (by omega) (by omega)
      generalize ((w12.alloc (.cells #[.int .u32 (k : Int), .int .u32 0, .int .u32 0] 23)).alloc (.cells #[.int .u32 (y : Int), .int .u32 0] 23)).alloc (.cells #[.bool false, .slice (some ⟨w12.heap.size, 0, none⟩) 3 3, .slice (some ⟨w12.heap.size + 1, 0, none⟩) 2 2] 29) = w9 at BR hW ⊢
      clear c2 c3
      replace HA := Lib.hid (HA.out.new hW); replace HW := Lib.hid (bthen HW.out hW HW.out.size)
      replace BR := Lib.hid BR
      clear hW
      refine wp_region_each (kss := [[], [(0, 74)], [(1, 75)], [], [(3, 77)], [(4, 78)], [(2, 76), (5, 79)], [(6, 80)], [(7, 81)], [(7, 81), (8, 82)], [(7, 81), (9, 83)], [(7, 81), (10, 84)], [(7, 81)], [(7, 81), (12, 86)], [(7, 81), (11, 85), (13, 87)], [(7, 81), (14, 88)], [(15, 89)], [(16, 90)], [(16, 90), (17, 91)], [(16, 90)], [(16, 90), (19, 93)], [(16, 90)], [(16, 90), (20, 94), (21, 95)], [(16, 90), (18, 92), (22, 96)], [(16, 90), (23, 97)], [(24, 98)], [(25, 99)], [(25, 99), (26, 100)], [(25, 99)], [(25, 99), (27, 101), (28, 102)], [(25, 99), (29, 103)], [(30, 104)], [(31, 105)], [(31, 105), (32, 106)], [(33, 107)]]) [(2, .pointer (some ⟨w.heap.size, 0, none⟩)), (7, .int .i64 ((k : Int))), (8, .pointer (some ⟨w12.heap.size + 2, 0, none⟩)), (9, .int .i64 (1))] [fun v _ => v = .pointer (some ⟨w.heap.size, 3, none⟩), fun v _ => v = .int .i64 (d), Rv 2 (((d : Int) : Rat)), fun v _ => v = .pointer (some ⟨w.heap.size, 3, none⟩), fun v _ => v = .int .i64 (d), fun v _ => v = QL (((d : Int) : Rat) / ((1 : Int) : Rat)), fun v _ => v = .bool (true), fun v _ => v = .bool (true), fun v _ => v = .int .i64 ((k : Int)), fun v _ => v = .int .u64 ((k : Int)), Nv 2 k, Rv 2 ((k : Nat)), fun v _ => v = .int .i64 ((k : Int)), fun v _ => v = QL ((((k : Int) : Int) : Rat) / ((1 : Int) : Rat)), fun v _ => v = .bool (true), fun v _ => v = .bool (true), fun v _ => v = .bool (true), Rw 3 (qv false k y), Rv 3 (qv false k y), fun v _ => v = .pointer (some ⟨w.heap.size, 2, none⟩), fun v _ => v = .int .i64 ((k : Int)), fun v _ => v = .int .i64 (1), fun v _ => v = QL ((((k : Int) : Int) : Rat) / ((1 : Int) : Rat)), fun v _ => v = .bool (true), fun v _ => v = .bool (true), fun v _ => v = .bool (true), Rw 1 (0), Rv 1 (0), fun v _ => v = QL (((0 : Int) : Rat) / ((1 : Int) : Rat)), fun v _ => v = .bool (true), fun v _ => v = .bool (true), fun v _ => v = .bool (true), fun v _ => v = .bool (true), fun v _ => v = .bool (true), fun v _ => v = .bool (true)] (by kernel_rfl) (by kernel_rfl) ⟨rfl, rfl, rfl, rfl, trivial⟩ ?_ ?_ ?_
      · exact ⟨fun _ _ _ h _ => h, fun _ _ _ h _ => h, fun _ _ _ h hb => Rv.new h hb, fun _ _ _ h _ => h, fun _ _ _ h _ => h, fun _ _ _ h _ => h, fun _ _ _ h _ => h, fun _ _ _ h _ => h, fun _ _ _ h _ => h, fun _ _ _ h _ => h, fun _ _ _ h hb => Nv.new h hb, fun _ _ _ h hb => Rv.new h hb, fun _ _ _ h _ => h, fun _ _ _ h _ => h, fun _ _ _ h _ => h, fun _ _ _ h _ => h, fun _ _ _ h _ => h, fun _ _ _ h hb => Rw.new h hb, fun _ _ _ h hb => Rv.new h hb, fun _ _ _ h _ => h, fun _ _ _ h _ => h, fun _ _ _ h _ => h, fun _ _ _ h _ => h, fun _ _ _ h _ => h, fun _ _ _ h _ => h, fun _ _ _ h _ => h, fun _ _ _ h hb => Rw.new h hb, fun _ _ _ h hb => Rv.new h hb, fun _ _ _ h _ => h, fun _ _ _ h _ => h, fun _ _ _ h _ => h, fun _ _ _ h _ => h, fun _ _ _ h _ => h, fun _ _ _ h _ => h, fun _ _ _ h _ => h, trivial⟩
      · refine ⟨?_, ?_, ?_, ?_, ?_, ?_, ?_, ?_, ?_, ?_, ?_, ?_, ?_, ?_, ?_, ?_, ?_, ?_, ?_, ?_, ?_, ?_, ?_, ?_, ?_, ?_, ?_, ?_, ?_, ?_, ?_, ?_, ?_, ?_, ?_, trivial⟩
        · exact fun _ _ hb he hd => ob_plain rfl (idx_3 rfl he.1)
        · exact fun _ _ hb he hd => ob_plain rfl (load_i64 rfl hd.1 (A4.new HA.out hb).c3)
        · exact fun _ _ hb he hd => ob_plain rfl (gives_call1 _ _ _ rfl call_int (int_w (d) (by omega) (by omega) _ hd.1 _))
        · exact fun _ _ hb he hd => ob_plain rfl (idx_3 rfl he.1)
        · exact fun _ _ hb he hd => ob_plain rfl (load_i64 rfl hd.1 (A4.new HA.out hb).c3)
        · exact fun _ _ hb he hd => ob_plain rfl (gives_call2 _ _ _ _ rfl call_low (low_v (d) (1) (by omega) (by omega) (by omega) (by omega) (by omega) _ _ hd.1 rfl _))
        · exact fun _ _ hb he hd => ob_plain rfl (gives_call2 _ _ _ _ rfl call_is (is_v hd.1 hd.2.1 ((one_div _).symm) (by have := frac_le d 1 (by omega); omega)))
        · exact fun _ _ hb he hd => ob_plain rfl (gives_move _ rfl ⟨hd.1, Below.refl _ _⟩)
        · exact fun _ _ hb he hd => ob_on 81 rfl (by kernel_rfl) hd.1 (gives_move _ rfl ⟨he.2.1, Below.refl _ _⟩)
        · exact fun _ _ hb he hd => ob_on 81 rfl (by kernel_rfl) hd.1 (conv_u64 (by omega) rfl hd.2.1)
        · exact fun _ _ hb he hd => ob_on 81 rfl (by kernel_rfl) hd.1 (gives_call1 _ _ _ rfl call_nof (nof_v k (by omega) _ hd.2.1 _))
        · exact fun _ _ hb he hd => ob_on 81 rfl (by kernel_rfl) hd.1 (gives_call1 _ _ _ rfl call_fromnat (fromnat_v hd.2.1 (by omega)))
        · exact fun _ _ hb he hd => ob_on 81 rfl (by kernel_rfl) hd.1 (gives_move _ rfl ⟨he.2.1, Below.refl _ _⟩)
        · exact fun _ _ hb he hd => ob_on 81 rfl (by kernel_rfl) hd.1 (gives_call2 _ _ _ _ rfl call_low (low_v ((k : Int)) (1) (by omega) (by omega) (by omega) (by omega) (by omega) _ _ hd.2.1 rfl _))
        · exact fun _ _ hb he hd => ob_on 81 rfl (by kernel_rfl) hd.1 (gives_call2 _ _ _ _ rfl call_is (is_v hd.2.1 hd.2.2.1 (by rw [one_div, Rat.intCast_natCast]) (by have := frac_le (k : Int) 1 (by omega); omega)))
        · exact fun _ _ hb he hd => ob_plain rfl (gives_pick true _ _ _ rfl hd.1 ⟨hd.2.1, Below.refl _ _⟩)
        · exact fun _ _ hb he hd => ob_plain rfl (gives_move _ rfl ⟨hd.1, Below.refl _ _⟩)
        · exact fun _ _ hb he hd => ob_on 90 rfl (by kernel_rfl) hd.1 (load_bx rfl he.2.2.1 (Bx.new BR.out hb))
        · exact fun _ _ hb he hd => ob_on 90 rfl (by kernel_rfl) hd.1 (gives_call1 _ _ _ rfl call_norm (norm_v hd.2.1 (by omega)))
        · exact fun _ _ hb he hd => ob_on 90 rfl (by kernel_rfl) hd.1 (idx_2 rfl he.1)
        · exact fun _ _ hb he hd => ob_on 90 rfl (by kernel_rfl) hd.1 (load_i64 rfl hd.2.1 (A4.new HA.out hb).c2)
        · exact fun _ _ hb he hd => ob_on 90 rfl (by kernel_rfl) hd.1 (gives_move _ rfl ⟨he.2.2.2.1, Below.refl _ _⟩)
        · exact fun _ _ hb he hd => ob_on 90 rfl (by kernel_rfl) hd.1 (gives_call2 _ _ _ _ rfl call_low (low_v ((k : Int)) (1) (by omega) (by omega) (by omega) (by omega) (by omega) _ _ hd.2.1 hd.2.2.1 _))
        · exact fun _ _ hb he hd => ob_on 90 rfl (by kernel_rfl) hd.1 (gives_call2 _ _ _ _ rfl call_is (is_v hd.2.1 hd.2.2.1 (HEQ.out) (by have := frac_le (k : Int) 1 (by omega); omega)))
        · exact fun _ _ hb he hd => ob_plain rfl (gives_pick true _ _ _ rfl hd.1 ⟨hd.2.1, Below.refl _ _⟩)
        · exact fun _ _ hb he hd => ob_plain rfl (gives_move _ rfl ⟨hd.1, Below.refl _ _⟩)
        · exact fun _ _ hb he hd => ob_on 99 rfl (by kernel_rfl) hd.1 (build_zero rfl)
        · exact fun _ _ hb he hd => ob_on 99 rfl (by kernel_rfl) hd.1 (gives_call1 _ _ _ rfl call_norm (norm_v hd.2.1 (by omega)))
        · exact fun _ _ hb he hd => ob_on 99 rfl (by kernel_rfl) hd.1 (gives_call2 _ _ _ _ rfl call_low (low_v (0) (1) (by omega) (by omega) (by omega) (by omega) (by omega) _ _ rfl rfl _))
        · exact fun _ _ hb he hd => ob_on 99 rfl (by kernel_rfl) hd.1 (gives_call2 _ _ _ _ rfl call_is (is_v hd.2.1 hd.2.2.1 (by rw [one_div]; rfl) (by have := frac_le 0 1 (by omega); omega)))
        · exact fun _ _ hb he hd => ob_plain rfl (gives_pick true _ _ _ rfl hd.1 ⟨hd.2.1, Below.refl _ _⟩)
        · exact fun _ _ hb he hd => ob_plain rfl (gives_move _ rfl ⟨hd.1, Below.refl _ _⟩)
        · exact fun _ _ hb he hd => ob_on 105 rfl (by kernel_rfl) hd.1 (gives_call0 _ _ rfl call_awake (awake_v _))
        · exact fun _ _ hb he hd => ob_plain rfl (gives_pick true _ _ _ rfl hd.1 ⟨hd.2.1, Below.refl _ _⟩)
        · exact fun _ _ hb he hd => ob_plain rfl (gives_assign _ rfl ⟨hd.1, Below.refl _ _⟩)
      intro vs w20 hb hR
      have e4 : vs 34 = .bool true := hR 34 (by decide)
      clear hR
      simp only [putsL, Nat.zero_add, Nat.reduceAdd, List.take_succ_cons, List.take_zero, Act.put, List.setIfInBounds_toArray, List.set_cons_zero, List.set_cons_succ]
      rw [e4]
      clear e4
      replace HW := Lib.hid (bthen HW.out hb HW.out.size)
      go_wp2_with fail
      go_ret
      exact ⟨rfl, HW.out⟩
    · have ty : ((y : Int) == 0) = false := by simp; omega
      have HEQ := Lib.hid (show qv false k y = ((c : Int) : Rat) / (((y : Int) : Int) : Rat) by
        have := qv_frac c (y : Int) (by omega)
        rw [show decide (c < 0) = false by simp; omega, show decide (((y : Int) : Int) < 0) = false by simp, show (false != false) = false from rfl] at this
        rw [← this, show c.natAbs = k by omega]; rfl)
      subst hk
      clear hc
      go_upto_region 16 with (fail)
      obtain ⟨BR, hW⟩ := raw_world w12 false k y (by omega) (by omega)
      generalize ((w12.alloc (.cells #[.int .u32 (k : Int), .int .u32 0, .int .u32 0] 23)).alloc (.cells #[.int .u32 (y : Int), .int .u32 0] 23)).alloc (.cells #[.bool false, .slice (some ⟨w12.heap.size, 0, none⟩) 3 3, .slice (some ⟨w12.heap.size + 1, 0, none⟩) 2 2] 29) = w9 at BR hW ⊢
      clear c2 c3
      replace HA := Lib.hid (HA.out.new hW); replace HW := Lib.hid (bthen HW.out hW HW.out.size)
      replace BR := Lib.hid BR
      clear hW
      refine wp_region_each (kss := [[], [(0, 74)], [(1, 75)], [], [(3, 77)], [(4, 78)], [(2, 76), (5, 79)], [(6, 80)], [(7, 81)], [(7, 81), (8, 82)], [(7, 81), (9, 83)], [(7, 81), (10, 84)], [(7, 81)], [(7, 81), (12, 86)], [(7, 81), (11, 85), (13, 87)], [(7, 81), (14, 88)], [(15, 89)], [(16, 90)], [(16, 90), (17, 91)], [(16, 90)], [(16, 90), (19, 93)], [(16, 90)], [(16, 90), (20, 94), (21, 95)], [(16, 90), (18, 92), (22, 96)], [(16, 90), (23, 97)], [(24, 98)], [(25, 99)], [(25, 99), (26, 100)], [(25, 99)], [(25, 99), (27, 101), (28, 102)], [(25, 99), (29, 103)], [(30, 104)], [(31, 105)], [(31, 105), (32, 106)], [(33, 107)]]) [(2, .pointer (some ⟨w.heap.size, 0, none⟩)), (7, .int .i64 ((k : Int))), (8, .pointer (some ⟨w12.heap.size + 2, 0, none⟩)), (9, .int .i64 ((y : Int)))] [fun v _ => v = .pointer (some ⟨w.heap.size, 3, none⟩), fun v _ => v = .int .i64 (d), Rv 2 (((d : Int) : Rat)), fun v _ => v = .pointer (some ⟨w.heap.size, 3, none⟩), fun v _ => v = .int .i64 (d), fun v _ => v = QL (((d : Int) : Rat) / ((1 : Int) : Rat)), fun v _ => v = .bool (true), fun v _ => v = .bool (true), fun v _ => v = .int .i64 ((k : Int)), fun v _ => v = .int .u64 ((k : Int)), Nv 2 k, Rv 2 ((k : Nat)), fun v _ => v = .int .i64 ((k : Int)), fun v _ => v = QL ((((k : Int) : Int) : Rat) / ((1 : Int) : Rat)), fun v _ => v = .bool (true), fun v _ => v = .bool (true), fun v _ => v = .bool (true), Rw 3 (qv false k y), Rv 3 (qv false k y), fun v _ => v = .pointer (some ⟨w.heap.size, 2, none⟩), fun v _ => v = .int .i64 ((k : Int)), fun v _ => v = .int .i64 ((y : Int)), fun v _ => v = QL ((((k : Int) : Int) : Rat) / (((y : Int) : Int) : Rat)), fun v _ => v = .bool (true), fun v _ => v = .bool (true), fun v _ => v = .bool (true), Rw 1 (0), Rv 1 (0), fun v _ => v = QL (((0 : Int) : Rat) / ((1 : Int) : Rat)), fun v _ => v = .bool (true), fun v _ => v = .bool (true), fun v _ => v = .bool (true), fun v _ => v = .bool (true), fun v _ => v = .bool (true), fun v _ => v = .bool (true)] (by kernel_rfl) (by kernel_rfl) ⟨rfl, rfl, rfl, rfl, trivial⟩ ?_ ?_ ?_
      · exact ⟨fun _ _ _ h _ => h, fun _ _ _ h _ => h, fun _ _ _ h hb => Rv.new h hb, fun _ _ _ h _ => h, fun _ _ _ h _ => h, fun _ _ _ h _ => h, fun _ _ _ h _ => h, fun _ _ _ h _ => h, fun _ _ _ h _ => h, fun _ _ _ h _ => h, fun _ _ _ h hb => Nv.new h hb, fun _ _ _ h hb => Rv.new h hb, fun _ _ _ h _ => h, fun _ _ _ h _ => h, fun _ _ _ h _ => h, fun _ _ _ h _ => h, fun _ _ _ h _ => h, fun _ _ _ h hb => Rw.new h hb, fun _ _ _ h hb => Rv.new h hb, fun _ _ _ h _ => h, fun _ _ _ h _ => h, fun _ _ _ h _ => h, fun _ _ _ h _ => h, fun _ _ _ h _ => h, fun _ _ _ h _ => h, fun _ _ _ h _ => h, fun _ _ _ h hb => Rw.new h hb, fun _ _ _ h hb => Rv.new h hb, fun _ _ _ h _ => h, fun _ _ _ h _ => h, fun _ _ _ h _ => h, fun _ _ _ h _ => h, fun _ _ _ h _ => h, fun _ _ _ h _ => h, fun _ _ _ h _ => h, trivial⟩
      · refine ⟨?_, ?_, ?_, ?_, ?_, ?_, ?_, ?_, ?_, ?_, ?_, ?_, ?_, ?_, ?_, ?_, ?_, ?_, ?_, ?_, ?_, ?_, ?_, ?_, ?_, ?_, ?_, ?_, ?_, ?_, ?_, ?_, ?_, ?_, ?_, trivial⟩
        · exact fun _ _ hb he hd => ob_plain rfl (idx_3 rfl he.1)
        · exact fun _ _ hb he hd => ob_plain rfl (load_i64 rfl hd.1 (A4.new HA.out hb).c3)
        · exact fun _ _ hb he hd => ob_plain rfl (gives_call1 _ _ _ rfl call_int (int_w (d) (by omega) (by omega) _ hd.1 _))
        · exact fun _ _ hb he hd => ob_plain rfl (idx_3 rfl he.1)
        · exact fun _ _ hb he hd => ob_plain rfl (load_i64 rfl hd.1 (A4.new HA.out hb).c3)
        · exact fun _ _ hb he hd => ob_plain rfl (gives_call2 _ _ _ _ rfl call_low (low_v (d) (1) (by omega) (by omega) (by omega) (by omega) (by omega) _ _ hd.1 rfl _))
        · exact fun _ _ hb he hd => ob_plain rfl (gives_call2 _ _ _ _ rfl call_is (is_v hd.1 hd.2.1 ((one_div _).symm) (by have := frac_le d 1 (by omega); omega)))
        · exact fun _ _ hb he hd => ob_plain rfl (gives_move _ rfl ⟨hd.1, Below.refl _ _⟩)
        · exact fun _ _ hb he hd => ob_on 81 rfl (by kernel_rfl) hd.1 (gives_move _ rfl ⟨he.2.1, Below.refl _ _⟩)
        · exact fun _ _ hb he hd => ob_on 81 rfl (by kernel_rfl) hd.1 (conv_u64 (by omega) rfl hd.2.1)
        · exact fun _ _ hb he hd => ob_on 81 rfl (by kernel_rfl) hd.1 (gives_call1 _ _ _ rfl call_nof (nof_v k (by omega) _ hd.2.1 _))
        · exact fun _ _ hb he hd => ob_on 81 rfl (by kernel_rfl) hd.1 (gives_call1 _ _ _ rfl call_fromnat (fromnat_v hd.2.1 (by omega)))
        · exact fun _ _ hb he hd => ob_on 81 rfl (by kernel_rfl) hd.1 (gives_move _ rfl ⟨he.2.1, Below.refl _ _⟩)
        · exact fun _ _ hb he hd => ob_on 81 rfl (by kernel_rfl) hd.1 (gives_call2 _ _ _ _ rfl call_low (low_v ((k : Int)) (1) (by omega) (by omega) (by omega) (by omega) (by omega) _ _ hd.2.1 rfl _))
        · exact fun _ _ hb he hd => ob_on 81 rfl (by kernel_rfl) hd.1 (gives_call2 _ _ _ _ rfl call_is (is_v hd.2.1 hd.2.2.1 (by rw [one_div, Rat.intCast_natCast]) (by have := frac_le (k : Int) 1 (by omega); omega)))
        · exact fun _ _ hb he hd => ob_plain rfl (gives_pick true _ _ _ rfl hd.1 ⟨hd.2.1, Below.refl _ _⟩)
        · exact fun _ _ hb he hd => ob_plain rfl (gives_move _ rfl ⟨hd.1, Below.refl _ _⟩)
        · exact fun _ _ hb he hd => ob_on 90 rfl (by kernel_rfl) hd.1 (load_bx rfl he.2.2.1 (Bx.new BR.out hb))
        · exact fun _ _ hb he hd => ob_on 90 rfl (by kernel_rfl) hd.1 (gives_call1 _ _ _ rfl call_norm (norm_v hd.2.1 (by omega)))
        · exact fun _ _ hb he hd => ob_on 90 rfl (by kernel_rfl) hd.1 (idx_2 rfl he.1)
        · exact fun _ _ hb he hd => ob_on 90 rfl (by kernel_rfl) hd.1 (load_i64 rfl hd.2.1 (A4.new HA.out hb).c2)
        · exact fun _ _ hb he hd => ob_on 90 rfl (by kernel_rfl) hd.1 (gives_move _ rfl ⟨he.2.2.2.1, Below.refl _ _⟩)
        · exact fun _ _ hb he hd => ob_on 90 rfl (by kernel_rfl) hd.1 (gives_call2 _ _ _ _ rfl call_low (low_v ((k : Int)) ((y : Int)) (by omega) (by omega) (by omega) (by omega) (by omega) _ _ hd.2.1 hd.2.2.1 _))
        · exact fun _ _ hb he hd => ob_on 90 rfl (by kernel_rfl) hd.1 (gives_call2 _ _ _ _ rfl call_is (is_v hd.2.1 hd.2.2.1 (HEQ.out) (by have := frac_le (k : Int) (y : Int) (by omega); omega)))
        · exact fun _ _ hb he hd => ob_plain rfl (gives_pick true _ _ _ rfl hd.1 ⟨hd.2.1, Below.refl _ _⟩)
        · exact fun _ _ hb he hd => ob_plain rfl (gives_move _ rfl ⟨hd.1, Below.refl _ _⟩)
        · exact fun _ _ hb he hd => ob_on 99 rfl (by kernel_rfl) hd.1 (build_zero rfl)
        · exact fun _ _ hb he hd => ob_on 99 rfl (by kernel_rfl) hd.1 (gives_call1 _ _ _ rfl call_norm (norm_v hd.2.1 (by omega)))
        · exact fun _ _ hb he hd => ob_on 99 rfl (by kernel_rfl) hd.1 (gives_call2 _ _ _ _ rfl call_low (low_v (0) (1) (by omega) (by omega) (by omega) (by omega) (by omega) _ _ rfl rfl _))
        · exact fun _ _ hb he hd => ob_on 99 rfl (by kernel_rfl) hd.1 (gives_call2 _ _ _ _ rfl call_is (is_v hd.2.1 hd.2.2.1 (by rw [one_div]; rfl) (by have := frac_le 0 1 (by omega); omega)))
        · exact fun _ _ hb he hd => ob_plain rfl (gives_pick true _ _ _ rfl hd.1 ⟨hd.2.1, Below.refl _ _⟩)
        · exact fun _ _ hb he hd => ob_plain rfl (gives_move _ rfl ⟨hd.1, Below.refl _ _⟩)
        · exact fun _ _ hb he hd => ob_on 105 rfl (by kernel_rfl) hd.1 (gives_call0 _ _ rfl call_awake (awake_v _))
        · exact fun _ _ hb he hd => ob_plain rfl (gives_pick true _ _ _ rfl hd.1 ⟨hd.2.1, Below.refl _ _⟩)
        · exact fun _ _ hb he hd => ob_plain rfl (gives_assign _ rfl ⟨hd.1, Below.refl _ _⟩)
      intro vs w20 hb hR
      have e4 : vs 34 = .bool true := hR 34 (by decide)
      clear hR
      simp only [putsL, Nat.zero_add, Nat.reduceAdd, List.take_succ_cons, List.take_zero, Act.put, List.setIfInBounds_toArray, List.set_cons_zero, List.set_cons_succ]
      rw [e4]
      clear e4
      replace HW := Lib.hid (bthen HW.out hb HW.out.size)
      go_wp2_with fail
      go_ret
      exact ⟨rfl, HW.out⟩
set_option maxRecDepth 100000 in
set_option maxHeartbeats 8000000 in
theorem makes_b1 (a b c d : Int) (x : Nat) (_hx : x < 4294967296) (w : World) (h : winB a b c d = true) (hb0 : b ≠ 0) : Calls Try.prog 3 #[.agg #[.int .i64 a, .int .i64 b, .int .i64 c, .int .i64 d], .int .u32 x] w fun e w' => e = .returned (.bool true) ∧ Below w.heap.size w w' := by
  have hwin := of_decide_eq_true h
  obtain ⟨⟨wa1, wa2⟩, ⟨wb1, wb2⟩, ⟨wc1, wc2⟩, ⟨wd1, wd2⟩⟩ := hwin
  have HN := Lib.hid h; have HB0 := Lib.hid hb0; clear h hb0
  have HA : Hid (A4 (w.alloc (.cells #[.int .i64 a, .int .i64 b, .int .i64 c, .int .i64 d] 22)) w.heap.size a b c d) := Lib.hid (Blk.new w _ _)
  have c0 := HA.out.c0; have c1 := HA.out.c1; have c2 := HA.out.c2; have c3 := HA.out.c3
  go_enter Try.func3, Try.ntmps3
  go_wp2_with fail
  refine within_any.mono ?_
  rintro e w1 ⟨rfl, hb⟩
  rw [HN.out]
  replace HA := Lib.hid (HA.out.new hb)
  have HW := Lib.hid (bthen (al w _) hb (al w _).size); clear hb c0 c1 c2 c3
  have c0 := HA.out.c0; have c1 := HA.out.c1; have c2 := HA.out.c2; have c3 := HA.out.c3
  go_wp2_with fail
  refine (qof_any a b (by omega) (by omega) (by omega) (by omega)).mono ?_
  rintro e w2 hof
  clear c0 c1 c2 c3
  obtain ⟨s5, A5, n5, k5, B5, m5, d5, rfl, h5, hb⟩ := hof.2 HB0.out
  clear hof
  replace HA := Lib.hid (HA.out.new hb)
  replace HW := Lib.hid (bthen HW.out hb HW.out.size); clear hb
  have H5 := Lib.hid h5; clear h5
  have tb : (b == 0) = false := by simp [HB0.out]
  have c0 := (HA.out.new (al w2 (.cells #[.bool s5, .slice A5 n5 k5, .slice B5 m5 d5] 29))).c0
  have c1 := (HA.out.new (al w2 (.cells #[.bool s5, .slice A5 n5 k5, .slice B5 m5 d5] 29))).c1
  go_wp2_with fail
  have hT := TB.made w2 29 (.bool s5) (.slice A5 n5 k5) (.slice B5 m5 d5)
  have hW := al w2 (.cells #[.bool s5, .slice A5 n5 k5, .slice B5 m5 d5] 29)
  clear c0 c1
  generalize w2.alloc (.cells #[.bool s5, .slice A5 n5 k5, .slice B5 m5 d5] 29) = w3 at hT hW ⊢
  replace HA := Lib.hid (HA.out.new hW); replace HW := Lib.hid (bthen HW.out hW HW.out.size)
  have B5 : Hid (Bn 2 (((a : Int) : Rat) / ((b : Int) : Rat)) w2.heap.size w3) := Lib.hid ⟨s5, A5, n5, k5, B5, m5, d5, hT, H5.out.new hW⟩
  clear hT hW H5
  refine wp_region_each (kss := [[], [(0, 41)], [(1, 42)], [(2, 43)], [(2, 43)], [(2, 43), (4, 45)], [(2, 43)], [(2, 43), (6, 47)], [(2, 43), (5, 46), (7, 48)], [(2, 43), (3, 44), (8, 49)], [(2, 43), (9, 50)], [(2, 43), (10, 51)]]) [(6, .int .i64 (0)), (5, .pointer (some ⟨w2.heap.size, 0, none⟩)), (2, .pointer (some ⟨w.heap.size, 0, none⟩))] [fun v _ => v = .int .i64 (0), fun v _ => v = .bool (false), fun v _ => v = .bool (false), Rv 2 (((a : Int) : Rat) / ((b : Int) : Rat)), fun v _ => v = .pointer (some ⟨w.heap.size, 0, none⟩), fun v _ => v = .int .i64 (a), fun v _ => v = .pointer (some ⟨w.heap.size, 1, none⟩), fun v _ => v = .int .i64 (b), fun v _ => v = QL (((a : Int) : Rat) / ((b : Int) : Rat)), fun v _ => v = .bool (true), fun v _ => v = .bool (false), fun v _ => v = .bool (false)] (by kernel_rfl) (by kernel_rfl) ⟨rfl, rfl, rfl, trivial⟩ ?_ ?_ ?_
  · exact ⟨fun _ _ _ h _ => h, fun _ _ _ h _ => h, fun _ _ _ h _ => h, fun _ _ _ h hb => Rv.new h hb, fun _ _ _ h _ => h, fun _ _ _ h _ => h, fun _ _ _ h _ => h, fun _ _ _ h _ => h, fun _ _ _ h _ => h, fun _ _ _ h _ => h, fun _ _ _ h _ => h, fun _ _ _ h _ => h, trivial⟩
  · refine ⟨?_, ?_, ?_, ?_, ?_, ?_, ?_, ?_, ?_, ?_, ?_, ?_, trivial⟩
    · exact fun _ _ hb he hd => ob_plain rfl (gives_move _ rfl ⟨he.1, Below.refl _ _⟩)
    · exact fun _ _ hb he hd => ob_plain rfl (gives_ne_int (0) (0) .i64 _ _ _ _ rfl hd.1 rfl ⟨congrArg Value.bool (by decide), Below.refl _ _⟩)
    · exact fun _ _ hb he hd => ob_plain rfl (gives_move _ rfl ⟨hd.1, Below.refl _ _⟩)
    · exact fun _ _ hb he hd => ob_on 43 rfl (by kernel_rfl) hd.1 (load_bn rfl he.2.1 (Bn.new B5.out hb))
    · exact fun _ _ hb he hd => ob_on 43 rfl (by kernel_rfl) hd.1 (idx_0 rfl he.2.2.1)
    · exact fun _ _ hb he hd => ob_on 43 rfl (by kernel_rfl) hd.1 (load_i64 rfl hd.2.1 (A4.new HA.out hb).c0)
    · exact fun _ _ hb he hd => ob_on 43 rfl (by kernel_rfl) hd.1 (idx_1 rfl he.2.2.1)
    · exact fun _ _ hb he hd => ob_on 43 rfl (by kernel_rfl) hd.1 (load_i64 rfl hd.2.1 (A4.new HA.out hb).c1)
    · exact fun _ _ hb he hd => ob_on 43 rfl (by kernel_rfl) hd.1 (gives_call2 _ _ _ _ rfl call_low (low_v (a) (b) (by omega) (by omega) (by omega) (by omega) (HB0.out) _ _ hd.2.1 hd.2.2.1 _))
    · exact fun _ _ hb he hd => ob_on 43 rfl (by kernel_rfl) hd.1 (gives_call2 _ _ _ _ rfl call_is (is_v hd.2.1 hd.2.2.1 (rfl) (by have := frac_le a b HB0.out; omega)))
    · exact fun _ _ hb he hd => ob_on 43 rfl (by kernel_rfl) hd.1 (gives_not (true) _ _ rfl hd.2.1 ⟨rfl, Below.refl _ _⟩)
    · exact fun _ _ hb he hd => ob_plain rfl (gives_pick false _ _ _ rfl hd.1 ⟨hd.2.1, Below.refl _ _⟩)
  intro vs w12 hb hR
  have e52 : vs 11 = .bool false := hR 11 (by decide)
  clear hR
  simp only [putsL, Nat.zero_add, Nat.reduceAdd, List.take_succ_cons, List.take_zero, Act.put, List.setIfInBounds_toArray, List.set_cons_zero, List.set_cons_succ]
  rw [e52]
  clear e52
  replace HA := Lib.hid (HA.out.new hb); replace HW := Lib.hid (bthen HW.out hb HW.out.size)
  clear hb B5 HB0
  go_upto_region 9 with (fail)
  clear tb
  have c2 := HA.out.c2; have c3 := HA.out.c3
  obtain ⟨y, hy⟩ : ∃ y, y = x % 1048576 := ⟨_, rfl⟩
  have ey : (x : Int) % 1048576 = (y : Int) := by omega
  have hyl : y < 1048576 := by omega
  clear hy
  by_cases hc : c < 0
  · have tc : decide (c < 0) = true := by simp; omega
    obtain ⟨k, hk⟩ : ∃ k : Nat, -c = (k : Int) := ⟨c.natAbs, by omega⟩
    have k1 : k ≤ 1048576 := by omega
    by_cases hy0 : y = 0
    · have ty : ((y : Int) == 0) = true := by simp [hy0]
      have HEQ := Lib.hid (show qv true k y = ((c : Int) : Rat) / ((1 : Int) : Rat) by
        have := qv_frac c 1 (by omega)
        rw [show decide (c < 0) = true by simp; omega, show decide ((1 : Int) < 0) = false by simp, show (true != false) = true from rfl] at this
        rw [← this, show c.natAbs = k by omega]; rw [hy0, qv_den0]; rfl)
      have hcc : c ≤ 0 := by omega
      clear hc hy0
      go_upto_region 16 with (fail)
      obtain ⟨BR, hW⟩ := raw_world w12 true k y (by omega) (by omega)
      generalize ((w12.alloc (.cells #[.int .u32 (k : Int), .int .u32 0, .int .u32 0] 23)).alloc (.cells #[.int .u32 (y : Int), .int .u32 0] 23)).alloc (.cells #[.bool true, .slice (some ⟨w12.heap.size, 0, none⟩) 3 3, .slice (some ⟨w12.heap.size + 1, 0, none⟩) 2 2] 29) = w9 at BR hW ⊢
      clear c2 c3
      replace HA := Lib.hid (HA.out.new hW); replace HW := Lib.hid (bthen HW.out hW HW.out.size)
      replace BR := Lib.hid BR
      clear hW
      refine wp_region_each (kss := [[], [(0, 74)], [(1, 75)], [], [(3, 77)], [(4, 78)], [(2, 76), (5, 79)], [(6, 80)], [(7, 81)], [(7, 81), (8, 82)], [(7, 81), (9, 83)], [(7, 81), (10, 84)], [(7, 81)], [(7, 81), (12, 86)], [(7, 81), (11, 85), (13, 87)], [(7, 81), (14, 88)], [(15, 89)], [(16, 90)], [(16, 90), (17, 91)], [(16, 90)], [(16, 90), (19, 93)], [(16, 90)], [(16, 90), (20, 94), (21, 95)], [(16, 90), (18, 92), (22, 96)], [(16, 90), (23, 97)], [(24, 98)], [(25, 99)], [(25, 99), (26, 100)], [(25, 99)], [(25, 99), (27, 101), (28, 102)], [(25, 99), (29, 103)], [(30, 104)], [(31, 105)], [(31, 105), (32, 106)], [(33, 107)]]) [(2, .pointer (some ⟨w.heap.size, 0, none⟩)), (7, .int .i64 ((k : Int))), (8, .pointer (some ⟨w12.heap.size + 2, 0, none⟩)), (9, .int .i64 (1))] [fun v _ => v = .pointer (some ⟨w.heap.size, 3, none⟩), fun v _ => v = .int .i64 (d), Rv 2 (((d : Int) : Rat)), fun v _ => v = .pointer (some ⟨w.heap.size, 3, none⟩), fun v _ => v = .int .i64 (d), fun v _ => v = QL (((d : Int) : Rat) / ((1 : Int) : Rat)), fun v _ => v = .bool (true), fun v _ => v = .bool (true), fun v _ => v = .int .i64 ((k : Int)), fun v _ => v = .int .u64 ((k : Int)), Nv 2 k, Rv 2 ((k : Nat)), fun v _ => v = .int .i64 ((k : Int)), fun v _ => v = QL ((((k : Int) : Int) : Rat) / ((1 : Int) : Rat)), fun v _ => v = .bool (true), fun v _ => v = .bool (true), fun v _ => v = .bool (true), Rw 3 (qv true k y), Rv 3 (qv true k y), fun v _ => v = .pointer (some ⟨w.heap.size, 2, none⟩), fun v _ => v = .int .i64 (c), fun v _ => v = .int .i64 (1), fun v _ => v = QL (((c : Int) : Rat) / ((1 : Int) : Rat)), fun v _ => v = .bool (true), fun v _ => v = .bool (true), fun v _ => v = .bool (true), Rw 1 (0), Rv 1 (0), fun v _ => v = QL (((0 : Int) : Rat) / ((1 : Int) : Rat)), fun v _ => v = .bool (true), fun v _ => v = .bool (true), fun v _ => v = .bool (true), fun v _ => v = .bool (true), fun v _ => v = .bool (true), fun v _ => v = .bool (true)] (by kernel_rfl) (by kernel_rfl) ⟨rfl, rfl, rfl, rfl, trivial⟩ ?_ ?_ ?_
      · exact ⟨fun _ _ _ h _ => h, fun _ _ _ h _ => h, fun _ _ _ h hb => Rv.new h hb, fun _ _ _ h _ => h, fun _ _ _ h _ => h, fun _ _ _ h _ => h, fun _ _ _ h _ => h, fun _ _ _ h _ => h, fun _ _ _ h _ => h, fun _ _ _ h _ => h, fun _ _ _ h hb => Nv.new h hb, fun _ _ _ h hb => Rv.new h hb, fun _ _ _ h _ => h, fun _ _ _ h _ => h, fun _ _ _ h _ => h, fun _ _ _ h _ => h, fun _ _ _ h _ => h, fun _ _ _ h hb => Rw.new h hb, fun _ _ _ h hb => Rv.new h hb, fun _ _ _ h _ => h, fun _ _ _ h _ => h, fun _ _ _ h _ => h, fun _ _ _ h _ => h, fun _ _ _ h _ => h, fun _ _ _ h _ => h, fun _ _ _ h _ => h, fun _ _ _ h hb => Rw.new h hb, fun _ _ _ h hb => Rv.new h hb, fun _ _ _ h _ => h, fun _ _ _ h _ => h, fun _ _ _ h _ => h, fun _ _ _ h _ => h, fun _ _ _ h _ => h, fun _ _ _ h _ => h, fun _ _ _ h _ => h, trivial⟩
      · refine ⟨?_, ?_, ?_, ?_, ?_, ?_, ?_, ?_, ?_, ?_, ?_, ?_, ?_, ?_, ?_, ?_, ?_, ?_, ?_, ?_, ?_, ?_, ?_, ?_, ?_, ?_, ?_, ?_, ?_, ?_, ?_, ?_, ?_, ?_, ?_, trivial⟩
        · exact fun _ _ hb he hd => ob_plain rfl (idx_3 rfl he.1)
        · exact fun _ _ hb he hd => ob_plain rfl (load_i64 rfl hd.1 (A4.new HA.out hb).c3)
        · exact fun _ _ hb he hd => ob_plain rfl (gives_call1 _ _ _ rfl call_int (int_w (d) (by omega) (by omega) _ hd.1 _))
        · exact fun _ _ hb he hd => ob_plain rfl (idx_3 rfl he.1)
        · exact fun _ _ hb he hd => ob_plain rfl (load_i64 rfl hd.1 (A4.new HA.out hb).c3)
        · exact fun _ _ hb he hd => ob_plain rfl (gives_call2 _ _ _ _ rfl call_low (low_v (d) (1) (by omega) (by omega) (by omega) (by omega) (by omega) _ _ hd.1 rfl _))
        · exact fun _ _ hb he hd => ob_plain rfl (gives_call2 _ _ _ _ rfl call_is (is_v hd.1 hd.2.1 ((one_div _).symm) (by have := frac_le d 1 (by omega); omega)))
        · exact fun _ _ hb he hd => ob_plain rfl (gives_move _ rfl ⟨hd.1, Below.refl _ _⟩)
        · exact fun _ _ hb he hd => ob_on 81 rfl (by kernel_rfl) hd.1 (gives_move _ rfl ⟨he.2.1, Below.refl _ _⟩)
        · exact fun _ _ hb he hd => ob_on 81 rfl (by kernel_rfl) hd.1 (conv_u64 (by omega) rfl hd.2.1)
        · exact fun _ _ hb he hd => ob_on 81 rfl (by kernel_rfl) hd.1 (gives_call1 _ _ _ rfl call_nof (nof_v k (by omega) _ hd.2.1 _))
        · exact fun _ _ hb he hd => ob_on 81 rfl (by kernel_rfl) hd.1 (gives_call1 _ _ _ rfl call_fromnat (fromnat_v hd.2.1 (by omega)))
        · exact fun _ _ hb he hd => ob_on 81 rfl (by kernel_rfl) hd.1 (gives_move _ rfl ⟨he.2.1, Below.refl _ _⟩)
        · exact fun _ _ hb he hd => ob_on 81 rfl (by kernel_rfl) hd.1 (gives_call2 _ _ _ _ rfl call_low (low_v ((k : Int)) (1) (by omega) (by omega) (by omega) (by omega) (by omega) _ _ hd.2.1 rfl _))
        · exact fun _ _ hb he hd => ob_on 81 rfl (by kernel_rfl) hd.1 (gives_call2 _ _ _ _ rfl call_is (is_v hd.2.1 hd.2.2.1 (by rw [one_div, Rat.intCast_natCast]) (by have := frac_le (k : Int) 1 (by omega); omega)))
        · exact fun _ _ hb he hd => ob_plain rfl (gives_pick true _ _ _ rfl hd.1 ⟨hd.2.1, Below.refl _ _⟩)
        · exact fun _ _ hb he hd => ob_plain rfl (gives_move _ rfl ⟨hd.1, Below.refl _ _⟩)
        · exact fun _ _ hb he hd => ob_on 90 rfl (by kernel_rfl) hd.1 (load_bx rfl he.2.2.1 (Bx.new BR.out hb))
        · exact fun _ _ hb he hd => ob_on 90 rfl (by kernel_rfl) hd.1 (gives_call1 _ _ _ rfl call_norm (norm_v hd.2.1 (by omega)))
        · exact fun _ _ hb he hd => ob_on 90 rfl (by kernel_rfl) hd.1 (idx_2 rfl he.1)
        · exact fun _ _ hb he hd => ob_on 90 rfl (by kernel_rfl) hd.1 (load_i64 rfl hd.2.1 (A4.new HA.out hb).c2)
        · exact fun _ _ hb he hd => ob_on 90 rfl (by kernel_rfl) hd.1 (gives_move _ rfl ⟨he.2.2.2.1, Below.refl _ _⟩)
        · exact fun _ _ hb he hd => ob_on 90 rfl (by kernel_rfl) hd.1 (gives_call2 _ _ _ _ rfl call_low (low_v (c) (1) (by omega) (by omega) (by omega) (by omega) (by omega) _ _ hd.2.1 hd.2.2.1 _))
        · exact fun _ _ hb he hd => ob_on 90 rfl (by kernel_rfl) hd.1 (gives_call2 _ _ _ _ rfl call_is (is_v hd.2.1 hd.2.2.1 (HEQ.out) (by have := frac_le c 1 (by omega); omega)))
        · exact fun _ _ hb he hd => ob_plain rfl (gives_pick true _ _ _ rfl hd.1 ⟨hd.2.1, Below.refl _ _⟩)
        · exact fun _ _ hb he hd => ob_plain rfl (gives_move _ rfl ⟨hd.1, Below.refl _ _⟩)
        · exact fun _ _ hb he hd => ob_on 99 rfl (by kernel_rfl) hd.1 (build_zero rfl)
        · exact fun _ _ hb he hd => ob_on 99 rfl (by kernel_rfl) hd.1 (gives_call1 _ _ _ rfl call_norm (norm_v hd.2.1 (by omega)))
        · exact fun _ _ hb he hd => ob_on 99 rfl (by kernel_rfl) hd.1 (gives_call2 _ _ _ _ rfl call_low (low_v (0) (1) (by omega) (by omega) (by omega) (by omega) (by omega) _ _ rfl rfl _))
        · exact fun _ _ hb he hd => ob_on 99 rfl (by kernel_rfl) hd.1 (gives_call2 _ _ _ _ rfl call_is (is_v hd.2.1 hd.2.2.1 (by rw [one_div]; rfl) (by have := frac_le 0 1 (by omega); omega)))
        · exact fun _ _ hb he hd => ob_plain rfl (gives_pick true _ _ _ rfl hd.1 ⟨hd.2.1, Below.refl _ _⟩)
        · exact fun _ _ hb he hd => ob_plain rfl (gives_move _ rfl ⟨hd.1, Below.refl _ _⟩)
        · exact fun _ _ hb he hd => ob_on 105 rfl (by kernel_rfl) hd.1 (gives_call0 _ _ rfl call_awake (awake_v _))
        · exact fun _ _ hb he hd => ob_plain rfl (gives_pick true _ _ _ rfl hd.1 ⟨hd.2.1, Below.refl _ _⟩)
        · exact fun _ _ hb he hd => ob_plain rfl (gives_assign _ rfl ⟨hd.1, Below.refl _ _⟩)
      intro vs w20 hb hR
      have e4 : vs 34 = .bool true := hR 34 (by decide)
      clear hR
      simp only [putsL, Nat.zero_add, Nat.reduceAdd, List.take_succ_cons, List.take_zero, Act.put, List.setIfInBounds_toArray, List.set_cons_zero, List.set_cons_succ]
      rw [e4]
      clear e4
      replace HW := Lib.hid (bthen HW.out hb HW.out.size)
      go_wp2_with fail
      go_ret
      exact ⟨rfl, HW.out⟩
    · have ty : ((y : Int) == 0) = false := by simp; omega
      have HEQ := Lib.hid (show qv true k y = ((c : Int) : Rat) / (((y : Int) : Int) : Rat) by
        have := qv_frac c (y : Int) (by omega)
        rw [show decide (c < 0) = true by simp; omega, show decide (((y : Int) : Int) < 0) = false by simp, show (true != false) = true from rfl] at this
        rw [← this, show c.natAbs = k by omega]; rfl)
      have hcc : c ≤ 0 := by omega
      clear hc
      go_upto_region 16 with (fail)
      obtain ⟨BR, hW⟩ := raw_world w12 true k y (by omega) (by omega)
      generalize ((w12.alloc (.cells #[.int .u32 (k : Int), .int .u32 0, .int .u32 0] 23)).alloc (.cells #[.int .u32 (y : Int), .int .u32 0] 23)).alloc (.cells #[.bool true, .slice (some ⟨w12.heap.size, 0, none⟩) 3 3, .slice (some ⟨w12.heap.size + 1, 0, none⟩) 2 2] 29) = w9 at BR hW ⊢
      clear c2 c3
      replace HA := Lib.hid (HA.out.new hW); replace HW := Lib.hid (bthen HW.out hW HW.out.size)
      replace BR := Lib.hid BR
      clear hW
      refine wp_region_each (kss := [[], [(0, 74)], [(1, 75)], [], [(3, 77)], [(4, 78)], [(2, 76), (5, 79)], [(6, 80)], [(7, 81)], [(7, 81), (8, 82)], [(7, 81), (9, 83)], [(7, 81), (10, 84)], [(7, 81)], [(7, 81), (12, 86)], [(7, 81), (11, 85), (13, 87)], [(7, 81), (14, 88)], [(15, 89)], [(16, 90)], [(16, 90), (17, 91)], [(16, 90)], [(16, 90), (19, 93)], [(16, 90)], [(16, 90), (20, 94), (21, 95)], [(16, 90), (18, 92), (22, 96)], [(16, 90), (23, 97)], [(24, 98)], [(25, 99)], [(25, 99), (26, 100)], [(25, 99)], [(25, 99), (27, 101), (28, 102)], [(25, 99), (29, 103)], [(30, 104)], [(31, 105)], [(31, 105), (32, 106)], [(33, 107)]]) [(2, .pointer (some ⟨w.heap.size, 0, none⟩)), (7, .int .i64 ((k : Int))), (8, .pointer (some ⟨w12.heap.size + 2, 0, none⟩)), (9, .int .i64 ((y : Int)))] [fun v _ => v = .pointer (some ⟨w.heap.size, 3, none⟩), fun v _ => v = .int .i64 (d), Rv 2 (((d : Int) : Rat)), fun v _ => v = .pointer (some ⟨w.heap.size, 3, none⟩), fun v _ => v = .int .i64 (d), fun v _ => v = QL (((d : Int) : Rat) / ((1 : Int) : Rat)), fun v _ => v = .bool (true), fun v _ => v = .bool (true), fun v _ => v = .int .i64 ((k : Int)), fun v _ => v = .int .u64 ((k : Int)), Nv 2 k, Rv 2 ((k : Nat)), fun v _ => v = .int .i64 ((k : Int)), fun v _ => v = QL ((((k : Int) : Int) : Rat) / ((1 : Int) : Rat)), fun v _ => v = .bool (true), fun v _ => v = .bool (true), fun v _ => v = .bool (true), Rw 3 (qv true k y), Rv 3 (qv true k y), fun v _ => v = .pointer (some ⟨w.heap.size, 2, none⟩), fun v _ => v = .int .i64 (c), fun v _ => v = .int .i64 ((y : Int)), fun v _ => v = QL (((c : Int) : Rat) / (((y : Int) : Int) : Rat)), fun v _ => v = .bool (true), fun v _ => v = .bool (true), fun v _ => v = .bool (true), Rw 1 (0), Rv 1 (0), fun v _ => v = QL (((0 : Int) : Rat) / ((1 : Int) : Rat)), fun v _ => v = .bool (true), fun v _ => v = .bool (true), fun v _ => v = .bool (true), fun v _ => v = .bool (true), fun v _ => v = .bool (true), fun v _ => v = .bool (true)] (by kernel_rfl) (by kernel_rfl) ⟨rfl, rfl, rfl, rfl, trivial⟩ ?_ ?_ ?_
      · exact ⟨fun _ _ _ h _ => h, fun _ _ _ h _ => h, fun _ _ _ h hb => Rv.new h hb, fun _ _ _ h _ => h, fun _ _ _ h _ => h, fun _ _ _ h _ => h, fun _ _ _ h _ => h, fun _ _ _ h _ => h, fun _ _ _ h _ => h, fun _ _ _ h _ => h, fun _ _ _ h hb => Nv.new h hb, fun _ _ _ h hb => Rv.new h hb, fun _ _ _ h _ => h, fun _ _ _ h _ => h, fun _ _ _ h _ => h, fun _ _ _ h _ => h, fun _ _ _ h _ => h, fun _ _ _ h hb => Rw.new h hb, fun _ _ _ h hb => Rv.new h hb, fun _ _ _ h _ => h, fun _ _ _ h _ => h, fun _ _ _ h _ => h, fun _ _ _ h _ => h, fun _ _ _ h _ => h, fun _ _ _ h _ => h, fun _ _ _ h _ => h, fun _ _ _ h hb => Rw.new h hb, fun _ _ _ h hb => Rv.new h hb, fun _ _ _ h _ => h, fun _ _ _ h _ => h, fun _ _ _ h _ => h, fun _ _ _ h _ => h, fun _ _ _ h _ => h, fun _ _ _ h _ => h, fun _ _ _ h _ => h, trivial⟩
      · refine ⟨?_, ?_, ?_, ?_, ?_, ?_, ?_, ?_, ?_, ?_, ?_, ?_, ?_, ?_, ?_, ?_, ?_, ?_, ?_, ?_, ?_, ?_, ?_, ?_, ?_, ?_, ?_, ?_, ?_, ?_, ?_, ?_, ?_, ?_, ?_, trivial⟩
        · exact fun _ _ hb he hd => ob_plain rfl (idx_3 rfl he.1)
        · exact fun _ _ hb he hd => ob_plain rfl (load_i64 rfl hd.1 (A4.new HA.out hb).c3)
        · exact fun _ _ hb he hd => ob_plain rfl (gives_call1 _ _ _ rfl call_int (int_w (d) (by omega) (by omega) _ hd.1 _))
        · exact fun _ _ hb he hd => ob_plain rfl (idx_3 rfl he.1)
        · exact fun _ _ hb he hd => ob_plain rfl (load_i64 rfl hd.1 (A4.new HA.out hb).c3)
        · exact fun _ _ hb he hd => ob_plain rfl (gives_call2 _ _ _ _ rfl call_low (low_v (d) (1) (by omega) (by omega) (by omega) (by omega) (by omega) _ _ hd.1 rfl _))
        · exact fun _ _ hb he hd => ob_plain rfl (gives_call2 _ _ _ _ rfl call_is (is_v hd.1 hd.2.1 ((one_div _).symm) (by have := frac_le d 1 (by omega); omega)))
        · exact fun _ _ hb he hd => ob_plain rfl (gives_move _ rfl ⟨hd.1, Below.refl _ _⟩)
        · exact fun _ _ hb he hd => ob_on 81 rfl (by kernel_rfl) hd.1 (gives_move _ rfl ⟨he.2.1, Below.refl _ _⟩)
        · exact fun _ _ hb he hd => ob_on 81 rfl (by kernel_rfl) hd.1 (conv_u64 (by omega) rfl hd.2.1)
        · exact fun _ _ hb he hd => ob_on 81 rfl (by kernel_rfl) hd.1 (gives_call1 _ _ _ rfl call_nof (nof_v k (by omega) _ hd.2.1 _))
        · exact fun _ _ hb he hd => ob_on 81 rfl (by kernel_rfl) hd.1 (gives_call1 _ _ _ rfl call_fromnat (fromnat_v hd.2.1 (by omega)))
        · exact fun _ _ hb he hd => ob_on 81 rfl (by kernel_rfl) hd.1 (gives_move _ rfl ⟨he.2.1, Below.refl _ _⟩)
        · exact fun _ _ hb he hd => ob_on 81 rfl (by kernel_rfl) hd.1 (gives_call2 _ _ _ _ rfl call_low (low_v ((k : Int)) (1) (by omega) (by omega) (by omega) (by omega) (by omega) _ _ hd.2.1 rfl _))
        · exact fun _ _ hb he hd => ob_on 81 rfl (by kernel_rfl) hd.1 (gives_call2 _ _ _ _ rfl call_is (is_v hd.2.1 hd.2.2.1 (by rw [one_div, Rat.intCast_natCast]) (by have := frac_le (k : Int) 1 (by omega); omega)))
        · exact fun _ _ hb he hd => ob_plain rfl (gives_pick true _ _ _ rfl hd.1 ⟨hd.2.1, Below.refl _ _⟩)
        · exact fun _ _ hb he hd => ob_plain rfl (gives_move _ rfl ⟨hd.1, Below.refl _ _⟩)
        · exact fun _ _ hb he hd => ob_on 90 rfl (by kernel_rfl) hd.1 (load_bx rfl he.2.2.1 (Bx.new BR.out hb))
        · exact fun _ _ hb he hd => ob_on 90 rfl (by kernel_rfl) hd.1 (gives_call1 _ _ _ rfl call_norm (norm_v hd.2.1 (by omega)))
        · exact fun _ _ hb he hd => ob_on 90 rfl (by kernel_rfl) hd.1 (idx_2 rfl he.1)
        · exact fun _ _ hb he hd => ob_on 90 rfl (by kernel_rfl) hd.1 (load_i64 rfl hd.2.1 (A4.new HA.out hb).c2)
        · exact fun _ _ hb he hd => ob_on 90 rfl (by kernel_rfl) hd.1 (gives_move _ rfl ⟨he.2.2.2.1, Below.refl _ _⟩)
        · exact fun _ _ hb he hd => ob_on 90 rfl (by kernel_rfl) hd.1 (gives_call2 _ _ _ _ rfl call_low (low_v (c) ((y : Int)) (by omega) (by omega) (by omega) (by omega) (by omega) _ _ hd.2.1 hd.2.2.1 _))
        · exact fun _ _ hb he hd => ob_on 90 rfl (by kernel_rfl) hd.1 (gives_call2 _ _ _ _ rfl call_is (is_v hd.2.1 hd.2.2.1 (HEQ.out) (by have := frac_le c (y : Int) (by omega); omega)))
        · exact fun _ _ hb he hd => ob_plain rfl (gives_pick true _ _ _ rfl hd.1 ⟨hd.2.1, Below.refl _ _⟩)
        · exact fun _ _ hb he hd => ob_plain rfl (gives_move _ rfl ⟨hd.1, Below.refl _ _⟩)
        · exact fun _ _ hb he hd => ob_on 99 rfl (by kernel_rfl) hd.1 (build_zero rfl)
        · exact fun _ _ hb he hd => ob_on 99 rfl (by kernel_rfl) hd.1 (gives_call1 _ _ _ rfl call_norm (norm_v hd.2.1 (by omega)))
        · exact fun _ _ hb he hd => ob_on 99 rfl (by kernel_rfl) hd.1 (gives_call2 _ _ _ _ rfl call_low (low_v (0) (1) (by omega) (by omega) (by omega) (by omega) (by omega) _ _ rfl rfl _))
        · exact fun _ _ hb he hd => ob_on 99 rfl (by kernel_rfl) hd.1 (gives_call2 _ _ _ _ rfl call_is (is_v hd.2.1 hd.2.2.1 (by rw [one_div]; rfl) (by have := frac_le 0 1 (by omega); omega)))
        · exact fun _ _ hb he hd => ob_plain rfl (gives_pick true _ _ _ rfl hd.1 ⟨hd.2.1, Below.refl _ _⟩)
        · exact fun _ _ hb he hd => ob_plain rfl (gives_move _ rfl ⟨hd.1, Below.refl _ _⟩)
        · exact fun _ _ hb he hd => ob_on 105 rfl (by kernel_rfl) hd.1 (gives_call0 _ _ rfl call_awake (awake_v _))
        · exact fun _ _ hb he hd => ob_plain rfl (gives_pick true _ _ _ rfl hd.1 ⟨hd.2.1, Below.refl _ _⟩)
        · exact fun _ _ hb he hd => ob_plain rfl (gives_assign _ rfl ⟨hd.1, Below.refl _ _⟩)
      intro vs w20 hb hR
      have e4 : vs 34 = .bool true := hR 34 (by decide)
      clear hR
      simp only [putsL, Nat.zero_add, Nat.reduceAdd, List.take_succ_cons, List.take_zero, Act.put, List.setIfInBounds_toArray, List.set_cons_zero, List.set_cons_succ]
      rw [e4]
      clear e4
      replace HW := Lib.hid (bthen HW.out hb HW.out.size)
      go_wp2_with fail
      go_ret
      exact ⟨rfl, HW.out⟩
  · have tc : decide (c < 0) = false := by simp; omega
    obtain ⟨k, hk⟩ : ∃ k : Nat, c = (k : Int) := ⟨c.natAbs, by omega⟩
    have k1 : k ≤ 1048576 := by omega
    by_cases hy0 : y = 0
    · have ty : ((y : Int) == 0) = true := by simp [hy0]
      have HEQ := Lib.hid (show qv false k y = ((c : Int) : Rat) / ((1 : Int) : Rat) by
        have := qv_frac c 1 (by omega)
        rw [show decide (c < 0) = false by simp; omega, show decide ((1 : Int) < 0) = false by simp, show (false != false) = false from rfl] at this
        rw [← this, show c.natAbs = k by omega]; rw [hy0, qv_den0]; rfl)
      subst hk
      clear hc hy0
      go_upto_region 16 with (fail)
      obtain ⟨BR, hW⟩ := raw_world w12 false k y (by omega) (by omega)
      generalize ((w12.alloc (.cells #[.int .u32 (k : Int), .int .u32 0, .int .u32 0] 23)).alloc (.cells #[.int .u32 (y : Int), .int .u32 0] 23)).alloc (.cells #[.bool false, .slice (some ⟨w12.heap.size, 0, none⟩) 3 3, .slice (some ⟨w12.heap.size + 1, 0, none⟩) 2 2] 29) = w9 at BR hW ⊢
      clear c2 c3
      replace HA := Lib.hid (HA.out.new hW); replace HW := Lib.hid (bthen HW.out hW HW.out.size)
      replace BR := Lib.hid BR
      clear hW
      refine wp_region_each (kss := [[], [(0, 74)], [(1, 75)], [], [(3, 77)], [(4, 78)], [(2, 76), (5, 79)], [(6, 80)], [(7, 81)], [(7, 81), (8, 82)], [(7, 81), (9, 83)], [(7, 81), (10, 84)], [(7, 81)], [(7, 81), (12, 86)], [(7, 81), (11, 85), (13, 87)], [(7, 81), (14, 88)], [(15, 89)], [(16, 90)], [(16, 90), (17, 91)], [(16, 90)], [(16, 90), (19, 93)], [(16, 90)], [(16, 90), (20, 94), (21, 95)], [(16, 90), (18, 92), (22, 96)], [(16, 90), (23, 97)], [(24, 98)], [(25, 99)], [(25, 99), (26, 100)], [(25, 99)], [(25, 99), (27, 101), (28, 102)], [(25, 99), (29, 103)], [(30, 104)], [(31, 105)], [(31, 105), (32, 106)], [(33, 107)]]) [(2, .pointer (some ⟨w.heap.size, 0, none⟩)), (7, .int .i64 ((k : Int))), (8, .pointer (some ⟨w12.heap.size + 2, 0, none⟩)), (9, .int .i64 (1))] [fun v _ => v = .pointer (some ⟨w.heap.size, 3, none⟩), fun v _ => v = .int .i64 (d), Rv 2 (((d : Int) : Rat)), fun v _ => v = .pointer (some ⟨w.heap.size, 3, none⟩), fun v _ => v = .int .i64 (d), fun v _ => v = QL (((d : Int) : Rat) / ((1 : Int) : Rat)), fun v _ => v = .bool (true), fun v _ => v = .bool (true), fun v _ => v = .int .i64 ((k : Int)), fun v _ => v = .int .u64 ((k : Int)), Nv 2 k, Rv 2 ((k : Nat)), fun v _ => v = .int .i64 ((k : Int)), fun v _ => v = QL ((((k : Int) : Int) : Rat) / ((1 : Int) : Rat)), fun v _ => v = .bool (true), fun v _ => v = .bool (true), fun v _ => v = .bool (true), Rw 3 (qv false k y), Rv 3 (qv false k y), fun v _ => v = .pointer (some ⟨w.heap.size, 2, none⟩), fun v _ => v = .int .i64 ((k : Int)), fun v _ => v = .int .i64 (1), fun v _ => v = QL ((((k : Int) : Int) : Rat) / ((1 : Int) : Rat)), fun v _ => v = .bool (true), fun v _ => v = .bool (true), fun v _ => v = .bool (true), Rw 1 (0), Rv 1 (0), fun v _ => v = QL (((0 : Int) : Rat) / ((1 : Int) : Rat)), fun v _ => v = .bool (true), fun v _ => v = .bool (true), fun v _ => v = .bool (true), fun v _ => v = .bool (true), fun v _ => v = .bool (true), fun v _ => v = .bool (true)] (by kernel_rfl) (by kernel_rfl) ⟨rfl, rfl, rfl, rfl, trivial⟩ ?_ ?_ ?_
      · exact ⟨fun _ _ _ h _ => h, fun _ _ _ h _ => h, fun _ _ _ h hb => Rv.new h hb, fun _ _ _ h _ => h, fun _ _ _ h _ => h, fun _ _ _ h _ => h, fun _ _ _ h _ => h, fun _ _ _ h _ => h, fun _ _ _ h _ => h, fun _ _ _ h _ => h, fun _ _ _ h hb => Nv.new h hb, fun _ _ _ h hb => Rv.new h hb, fun _ _ _ h _ => h, fun _ _ _ h _ => h, fun _ _ _ h _ => h, fun _ _ _ h _ => h, fun _ _ _ h _ => h, fun _ _ _ h hb => Rw.new h hb, fun _ _ _ h hb => Rv.new h hb, fun _ _ _ h _ => h, fun _ _ _ h _ => h, fun _ _ _ h _ => h, fun _ _ _ h _ => h, fun _ _ _ h _ => h, fun _ _ _ h _ => h, fun _ _ _ h _ => h, fun _ _ _ h hb => Rw.new h hb, fun _ _ _ h hb => Rv.new h hb, fun _ _ _ h _ => h, fun _ _ _ h _ => h, fun _ _ _ h _ => h, fun _ _ _ h _ => h, fun _ _ _ h _ => h, fun _ _ _ h _ => h, fun _ _ _ h _ => h, trivial⟩
      · refine ⟨?_, ?_, ?_, ?_, ?_, ?_, ?_, ?_, ?_, ?_, ?_, ?_, ?_, ?_, ?_, ?_, ?_, ?_, ?_, ?_, ?_, ?_, ?_, ?_, ?_, ?_, ?_, ?_, ?_, ?_, ?_, ?_, ?_, ?_, ?_, trivial⟩
        · exact fun _ _ hb he hd => ob_plain rfl (idx_3 rfl he.1)
        · exact fun _ _ hb he hd => ob_plain rfl (load_i64 rfl hd.1 (A4.new HA.out hb).c3)
        · exact fun _ _ hb he hd => ob_plain rfl (gives_call1 _ _ _ rfl call_int (int_w (d) (by omega) (by omega) _ hd.1 _))
        · exact fun _ _ hb he hd => ob_plain rfl (idx_3 rfl he.1)
        · exact fun _ _ hb he hd => ob_plain rfl (load_i64 rfl hd.1 (A4.new HA.out hb).c3)
        · exact fun _ _ hb he hd => ob_plain rfl (gives_call2 _ _ _ _ rfl call_low (low_v (d) (1) (by omega) (by omega) (by omega) (by omega) (by omega) _ _ hd.1 rfl _))
        · exact fun _ _ hb he hd => ob_plain rfl (gives_call2 _ _ _ _ rfl call_is (is_v hd.1 hd.2.1 ((one_div _).symm) (by have := frac_le d 1 (by omega); omega)))
        · exact fun _ _ hb he hd => ob_plain rfl (gives_move _ rfl ⟨hd.1, Below.refl _ _⟩)
        · exact fun _ _ hb he hd => ob_on 81 rfl (by kernel_rfl) hd.1 (gives_move _ rfl ⟨he.2.1, Below.refl _ _⟩)
        · exact fun _ _ hb he hd => ob_on 81 rfl (by kernel_rfl) hd.1 (conv_u64 (by omega) rfl hd.2.1)
        · exact fun _ _ hb he hd => ob_on 81 rfl (by kernel_rfl) hd.1 (gives_call1 _ _ _ rfl call_nof (nof_v k (by omega) _ hd.2.1 _))
        · exact fun _ _ hb he hd => ob_on 81 rfl (by kernel_rfl) hd.1 (gives_call1 _ _ _ rfl call_fromnat (fromnat_v hd.2.1 (by omega)))
        · exact fun _ _ hb he hd => ob_on 81 rfl (by kernel_rfl) hd.1 (gives_move _ rfl ⟨he.2.1, Below.refl _ _⟩)
        · exact fun _ _ hb he hd => ob_on 81 rfl (by kernel_rfl) hd.1 (gives_call2 _ _ _ _ rfl call_low (low_v ((k : Int)) (1) (by omega) (by omega) (by omega) (by omega) (by omega) _ _ hd.2.1 rfl _))
        · exact fun _ _ hb he hd => ob_on 81 rfl (by kernel_rfl) hd.1 (gives_call2 _ _ _ _ rfl call_is (is_v hd.2.1 hd.2.2.1 (by rw [one_div, Rat.intCast_natCast]) (by have := frac_le (k : Int) 1 (by omega); omega)))
        · exact fun _ _ hb he hd => ob_plain rfl (gives_pick true _ _ _ rfl hd.1 ⟨hd.2.1, Below.refl _ _⟩)
        · exact fun _ _ hb he hd => ob_plain rfl (gives_move _ rfl ⟨hd.1, Below.refl _ _⟩)
        · exact fun _ _ hb he hd => ob_on 90 rfl (by kernel_rfl) hd.1 (load_bx rfl he.2.2.1 (Bx.new BR.out hb))
        · exact fun _ _ hb he hd => ob_on 90 rfl (by kernel_rfl) hd.1 (gives_call1 _ _ _ rfl call_norm (norm_v hd.2.1 (by omega)))
        · exact fun _ _ hb he hd => ob_on 90 rfl (by kernel_rfl) hd.1 (idx_2 rfl he.1)
        · exact fun _ _ hb he hd => ob_on 90 rfl (by kernel_rfl) hd.1 (load_i64 rfl hd.2.1 (A4.new HA.out hb).c2)
        · exact fun _ _ hb he hd => ob_on 90 rfl (by kernel_rfl) hd.1 (gives_move _ rfl ⟨he.2.2.2.1, Below.refl _ _⟩)
        · exact fun _ _ hb he hd => ob_on 90 rfl (by kernel_rfl) hd.1 (gives_call2 _ _ _ _ rfl call_low (low_v ((k : Int)) (1) (by omega) (by omega) (by omega) (by omega) (by omega) _ _ hd.2.1 hd.2.2.1 _))
        · exact fun _ _ hb he hd => ob_on 90 rfl (by kernel_rfl) hd.1 (gives_call2 _ _ _ _ rfl call_is (is_v hd.2.1 hd.2.2.1 (HEQ.out) (by have := frac_le (k : Int) 1 (by omega); omega)))
        · exact fun _ _ hb he hd => ob_plain rfl (gives_pick true _ _ _ rfl hd.1 ⟨hd.2.1, Below.refl _ _⟩)
        · exact fun _ _ hb he hd => ob_plain rfl (gives_move _ rfl ⟨hd.1, Below.refl _ _⟩)
        · exact fun _ _ hb he hd => ob_on 99 rfl (by kernel_rfl) hd.1 (build_zero rfl)
        · exact fun _ _ hb he hd => ob_on 99 rfl (by kernel_rfl) hd.1 (gives_call1 _ _ _ rfl call_norm (norm_v hd.2.1 (by omega)))
        · exact fun _ _ hb he hd => ob_on 99 rfl (by kernel_rfl) hd.1 (gives_call2 _ _ _ _ rfl call_low (low_v (0) (1) (by omega) (by omega) (by omega) (by omega) (by omega) _ _ rfl rfl _))
        · exact fun _ _ hb he hd => ob_on 99 rfl (by kernel_rfl) hd.1 (gives_call2 _ _ _ _ rfl call_is (is_v hd.2.1 hd.2.2.1 (by rw [one_div]; rfl) (by have := frac_le 0 1 (by omega); omega)))
        · exact fun _ _ hb he hd => ob_plain rfl (gives_pick true _ _ _ rfl hd.1 ⟨hd.2.1, Below.refl _ _⟩)
        · exact fun _ _ hb he hd => ob_plain rfl (gives_move _ rfl ⟨hd.1, Below.refl _ _⟩)
        · exact fun _ _ hb he hd => ob_on 105 rfl (by kernel_rfl) hd.1 (gives_call0 _ _ rfl call_awake (awake_v _))
        · exact fun _ _ hb he hd => ob_plain rfl (gives_pick true _ _ _ rfl hd.1 ⟨hd.2.1, Below.refl _ _⟩)
        · exact fun _ _ hb he hd => ob_plain rfl (gives_assign _ rfl ⟨hd.1, Below.refl _ _⟩)
      intro vs w20 hb hR
      have e4 : vs 34 = .bool true := hR 34 (by decide)
      clear hR
      simp only [putsL, Nat.zero_add, Nat.reduceAdd, List.take_succ_cons, List.take_zero, Act.put, List.setIfInBounds_toArray, List.set_cons_zero, List.set_cons_succ]
      rw [e4]
      clear e4
      replace HW := Lib.hid (bthen HW.out hb HW.out.size)
      go_wp2_with fail
      go_ret
      exact ⟨rfl, HW.out⟩
    · have ty : ((y : Int) == 0) = false := by simp; omega
      have HEQ := Lib.hid (show qv false k y = ((c : Int) : Rat) / (((y : Int) : Int) : Rat) by
        have := qv_frac c (y : Int) (by omega)
        rw [show decide (c < 0) = false by simp; omega, show decide (((y : Int) : Int) < 0) = false by simp, show (false != false) = false from rfl] at this
        rw [← this, show c.natAbs = k by omega]; rfl)
      subst hk
      clear hc
      go_upto_region 16 with (fail)
      obtain ⟨BR, hW⟩ := raw_world w12 false k y (by omega) (by omega)
      generalize ((w12.alloc (.cells #[.int .u32 (k : Int), .int .u32 0, .int .u32 0] 23)).alloc (.cells #[.int .u32 (y : Int), .int .u32 0] 23)).alloc (.cells #[.bool false, .slice (some ⟨w12.heap.size, 0, none⟩) 3 3, .slice (some ⟨w12.heap.size + 1, 0, none⟩) 2 2] 29) = w9 at BR hW ⊢
      clear c2 c3
      replace HA := Lib.hid (HA.out.new hW); replace HW := Lib.hid (bthen HW.out hW HW.out.size)
      replace BR := Lib.hid BR
      clear hW
      refine wp_region_each (kss := [[], [(0, 74)], [(1, 75)], [], [(3, 77)], [(4, 78)], [(2, 76), (5, 79)], [(6, 80)], [(7, 81)], [(7, 81), (8, 82)], [(7, 81), (9, 83)], [(7, 81), (10, 84)], [(7, 81)], [(7, 81), (12, 86)], [(7, 81), (11, 85), (13, 87)], [(7, 81), (14, 88)], [(15, 89)], [(16, 90)], [(16, 90), (17, 91)], [(16, 90)], [(16, 90), (19, 93)], [(16, 90)], [(16, 90), (20, 94), (21, 95)], [(16, 90), (18, 92), (22, 96)], [(16, 90), (23, 97)], [(24, 98)], [(25, 99)], [(25, 99), (26, 100)], [(25, 99)], [(25, 99), (27, 101), (28, 102)], [(25, 99), (29, 103)], [(30, 104)], [(31, 105)], [(31, 105), (32, 106)], [(33, 107)]]) [(2, .pointer (some ⟨w.heap.size, 0, none⟩)), (7, .int .i64 ((k : Int))), (8, .pointer (some ⟨w12.heap.size + 2, 0, none⟩)), (9, .int .i64 ((y : Int)))] [fun v _ => v = .pointer (some ⟨w.heap.size, 3, none⟩), fun v _ => v = .int .i64 (d), Rv 2 (((d : Int) : Rat)), fun v _ => v = .pointer (some ⟨w.heap.size, 3, none⟩), fun v _ => v = .int .i64 (d), fun v _ => v = QL (((d : Int) : Rat) / ((1 : Int) : Rat)), fun v _ => v = .bool (true), fun v _ => v = .bool (true), fun v _ => v = .int .i64 ((k : Int)), fun v _ => v = .int .u64 ((k : Int)), Nv 2 k, Rv 2 ((k : Nat)), fun v _ => v = .int .i64 ((k : Int)), fun v _ => v = QL ((((k : Int) : Int) : Rat) / ((1 : Int) : Rat)), fun v _ => v = .bool (true), fun v _ => v = .bool (true), fun v _ => v = .bool (true), Rw 3 (qv false k y), Rv 3 (qv false k y), fun v _ => v = .pointer (some ⟨w.heap.size, 2, none⟩), fun v _ => v = .int .i64 ((k : Int)), fun v _ => v = .int .i64 ((y : Int)), fun v _ => v = QL ((((k : Int) : Int) : Rat) / (((y : Int) : Int) : Rat)), fun v _ => v = .bool (true), fun v _ => v = .bool (true), fun v _ => v = .bool (true), Rw 1 (0), Rv 1 (0), fun v _ => v = QL (((0 : Int) : Rat) / ((1 : Int) : Rat)), fun v _ => v = .bool (true), fun v _ => v = .bool (true), fun v _ => v = .bool (true), fun v _ => v = .bool (true), fun v _ => v = .bool (true), fun v _ => v = .bool (true)] (by kernel_rfl) (by kernel_rfl) ⟨rfl, rfl, rfl, rfl, trivial⟩ ?_ ?_ ?_
      · exact ⟨fun _ _ _ h _ => h, fun _ _ _ h _ => h, fun _ _ _ h hb => Rv.new h hb, fun _ _ _ h _ => h, fun _ _ _ h _ => h, fun _ _ _ h _ => h, fun _ _ _ h _ => h, fun _ _ _ h _ => h, fun _ _ _ h _ => h, fun _ _ _ h _ => h, fun _ _ _ h hb => Nv.new h hb, fun _ _ _ h hb => Rv.new h hb, fun _ _ _ h _ => h, fun _ _ _ h _ => h, fun _ _ _ h _ => h, fun _ _ _ h _ => h, fun _ _ _ h _ => h, fun _ _ _ h hb => Rw.new h hb, fun _ _ _ h hb => Rv.new h hb, fun _ _ _ h _ => h, fun _ _ _ h _ => h, fun _ _ _ h _ => h, fun _ _ _ h _ => h, fun _ _ _ h _ => h, fun _ _ _ h _ => h, fun _ _ _ h _ => h, fun _ _ _ h hb => Rw.new h hb, fun _ _ _ h hb => Rv.new h hb, fun _ _ _ h _ => h, fun _ _ _ h _ => h, fun _ _ _ h _ => h, fun _ _ _ h _ => h, fun _ _ _ h _ => h, fun _ _ _ h _ => h, fun _ _ _ h _ => h, trivial⟩
      · refine ⟨?_, ?_, ?_, ?_, ?_, ?_, ?_, ?_, ?_, ?_, ?_, ?_, ?_, ?_, ?_, ?_, ?_, ?_, ?_, ?_, ?_, ?_, ?_, ?_, ?_, ?_, ?_, ?_, ?_, ?_, ?_, ?_, ?_, ?_, ?_, trivial⟩
        · exact fun _ _ hb he hd => ob_plain rfl (idx_3 rfl he.1)
        · exact fun _ _ hb he hd => ob_plain rfl (load_i64 rfl hd.1 (A4.new HA.out hb).c3)
        · exact fun _ _ hb he hd => ob_plain rfl (gives_call1 _ _ _ rfl call_int (int_w (d) (by omega) (by omega) _ hd.1 _))
        · exact fun _ _ hb he hd => ob_plain rfl (idx_3 rfl he.1)
        · exact fun _ _ hb he hd => ob_plain rfl (load_i64 rfl hd.1 (A4.new HA.out hb).c3)
        · exact fun _ _ hb he hd => ob_plain rfl (gives_call2 _ _ _ _ rfl call_low (low_v (d) (1) (by omega) (by omega) (by omega) (by omega) (by omega) _ _ hd.1 rfl _))
        · exact fun _ _ hb he hd => ob_plain rfl (gives_call2 _ _ _ _ rfl call_is (is_v hd.1 hd.2.1 ((one_div _).symm) (by have := frac_le d 1 (by omega); omega)))
        · exact fun _ _ hb he hd => ob_plain rfl (gives_move _ rfl ⟨hd.1, Below.refl _ _⟩)
        · exact fun _ _ hb he hd => ob_on 81 rfl (by kernel_rfl) hd.1 (gives_move _ rfl ⟨he.2.1, Below.refl _ _⟩)
        · exact fun _ _ hb he hd => ob_on 81 rfl (by kernel_rfl) hd.1 (conv_u64 (by omega) rfl hd.2.1)
        · exact fun _ _ hb he hd => ob_on 81 rfl (by kernel_rfl) hd.1 (gives_call1 _ _ _ rfl call_nof (nof_v k (by omega) _ hd.2.1 _))
        · exact fun _ _ hb he hd => ob_on 81 rfl (by kernel_rfl) hd.1 (gives_call1 _ _ _ rfl call_fromnat (fromnat_v hd.2.1 (by omega)))
        · exact fun _ _ hb he hd => ob_on 81 rfl (by kernel_rfl) hd.1 (gives_move _ rfl ⟨he.2.1, Below.refl _ _⟩)
        · exact fun _ _ hb he hd => ob_on 81 rfl (by kernel_rfl) hd.1 (gives_call2 _ _ _ _ rfl call_low (low_v ((k : Int)) (1) (by omega) (by omega) (by omega) (by omega) (by omega) _ _ hd.2.1 rfl _))
        · exact fun _ _ hb he hd => ob_on 81 rfl (by kernel_rfl) hd.1 (gives_call2 _ _ _ _ rfl call_is (is_v hd.2.1 hd.2.2.1 (by rw [one_div, Rat.intCast_natCast]) (by have := frac_le (k : Int) 1 (by omega); omega)))
        · exact fun _ _ hb he hd => ob_plain rfl (gives_pick true _ _ _ rfl hd.1 ⟨hd.2.1, Below.refl _ _⟩)
        · exact fun _ _ hb he hd => ob_plain rfl (gives_move _ rfl ⟨hd.1, Below.refl _ _⟩)
        · exact fun _ _ hb he hd => ob_on 90 rfl (by kernel_rfl) hd.1 (load_bx rfl he.2.2.1 (Bx.new BR.out hb))
        · exact fun _ _ hb he hd => ob_on 90 rfl (by kernel_rfl) hd.1 (gives_call1 _ _ _ rfl call_norm (norm_v hd.2.1 (by omega)))
        · exact fun _ _ hb he hd => ob_on 90 rfl (by kernel_rfl) hd.1 (idx_2 rfl he.1)
        · exact fun _ _ hb he hd => ob_on 90 rfl (by kernel_rfl) hd.1 (load_i64 rfl hd.2.1 (A4.new HA.out hb).c2)
        · exact fun _ _ hb he hd => ob_on 90 rfl (by kernel_rfl) hd.1 (gives_move _ rfl ⟨he.2.2.2.1, Below.refl _ _⟩)
        · exact fun _ _ hb he hd => ob_on 90 rfl (by kernel_rfl) hd.1 (gives_call2 _ _ _ _ rfl call_low (low_v ((k : Int)) ((y : Int)) (by omega) (by omega) (by omega) (by omega) (by omega) _ _ hd.2.1 hd.2.2.1 _))
        · exact fun _ _ hb he hd => ob_on 90 rfl (by kernel_rfl) hd.1 (gives_call2 _ _ _ _ rfl call_is (is_v hd.2.1 hd.2.2.1 (HEQ.out) (by have := frac_le (k : Int) (y : Int) (by omega); omega)))
        · exact fun _ _ hb he hd => ob_plain rfl (gives_pick true _ _ _ rfl hd.1 ⟨hd.2.1, Below.refl _ _⟩)
        · exact fun _ _ hb he hd => ob_plain rfl (gives_move _ rfl ⟨hd.1, Below.refl _ _⟩)
        · exact fun _ _ hb he hd => ob_on 99 rfl (by kernel_rfl) hd.1 (build_zero rfl)
        · exact fun _ _ hb he hd => ob_on 99 rfl (by kernel_rfl) hd.1 (gives_call1 _ _ _ rfl call_norm (norm_v hd.2.1 (by omega)))
        · exact fun _ _ hb he hd => ob_on 99 rfl (by kernel_rfl) hd.1 (gives_call2 _ _ _ _ rfl call_low (low_v (0) (1) (by omega) (by omega) (by omega) (by omega) (by omega) _ _ rfl rfl _))
        · exact fun _ _ hb he hd => ob_on 99 rfl (by kernel_rfl) hd.1 (gives_call2 _ _ _ _ rfl call_is (is_v hd.2.1 hd.2.2.1 (by rw [one_div]; rfl) (by have := frac_le 0 1 (by omega); omega)))
        · exact fun _ _ hb he hd => ob_plain rfl (gives_pick true _ _ _ rfl hd.1 ⟨hd.2.1, Below.refl _ _⟩)
        · exact fun _ _ hb he hd => ob_plain rfl (gives_move _ rfl ⟨hd.1, Below.refl _ _⟩)
        · exact fun _ _ hb he hd => ob_on 105 rfl (by kernel_rfl) hd.1 (gives_call0 _ _ rfl call_awake (awake_v _))
        · exact fun _ _ hb he hd => ob_plain rfl (gives_pick true _ _ _ rfl hd.1 ⟨hd.2.1, Below.refl _ _⟩)
        · exact fun _ _ hb he hd => ob_plain rfl (gives_assign _ rfl ⟨hd.1, Below.refl _ _⟩)
      intro vs w20 hb hR
      have e4 : vs 34 = .bool true := hR 34 (by decide)
      clear hR
      simp only [putsL, Nat.zero_add, Nat.reduceAdd, List.take_succ_cons, List.take_zero, Act.put, List.setIfInBounds_toArray, List.set_cons_zero, List.set_cons_succ]
      rw [e4]
      clear e4
      replace HW := Lib.hid (bthen HW.out hb HW.out.size)
      go_wp2_with fail
      go_ret
      exact ⟨rfl, HW.out⟩
theorem ratMakes_walk (a b c d : Int) (x : Int) (w : World) {p1 p2 p3 p4 : Prop} (_ : p1) (_ : p2) (_ : p3) (_ : p4) (h0 : 0 ≤ x ∧ x ≤ 4294967295) : Calls Try.prog 3 #[.agg #[.int .i64 a, .int .i64 b, .int .i64 c, .int .i64 d], .int .u32 x] w fun e w' => e = .returned (.bool true) ∧ Below w.heap.size w w' := by
  obtain ⟨n, rfl⟩ := Int.eq_ofNat_of_zero_le h0.1
  by_cases hw : winB a b c d = true
  · by_cases hb : b = 0
    · exact makes_b0 a b c d n (by omega) w hw hb
    · exact makes_b1 a b c d n (by omega) w hw hb
  · exact makes_far a b c d n w (by simpa using hw)
end Go.Proofs.Ytifnbpkcnkfanaa
