/-
  The walk of law26.HypergraphBasics: all cases.
-/
import Derived.Test.YtkiahnffepbgpaaBasO
import Derived.IntWalk
namespace Go.Proofs.Ytkiahnffepbgpaa
open Go.RowKit
set_option linter.unusedSimpArgs false
set_option linter.unusedVariables false

set_option maxRecDepth 100000 in
set_option maxHeartbeats 8000000 in
theorem basics_neg (n : Nat) (A : Option Addr) (es : List Nat) (len c : Nat) (v : Int) (s : Nat) (w : World) (hr : Es w w.heap.size A len es) (hl : len ≤ 70) (hv : -128 ≤ v ∧ v ≤ 127) (hs : s < 4294967296) (hcc : checkCode n es = 0) (hneg : v < 0) :
    Calls Try.prog 8 #[.agg #[.int .i64 n, .slice A len c], .int .i8 v, .int .u32 s] w fun e w' => e = .returned (.bool true) ∧ Below w.heap.size w w' := by
  obtain ⟨_, hn32, _, hes⟩ := checkCode_zero hcc
  have HES := Lib.hid (show ∀ e ∈ es, e < 2 ^ n by simpa using hes); clear hes
  have HN := Lib.hid (show n ≤ 32 by omega); clear hn32
  have HR := Lib.hid hr; clear hr
  have HL := Lib.hid hl
  have HS := Lib.hid hs
  have HCC := Lib.hid hcc; clear hcc
  have HLE := Lib.hid (show es.length ≤ 70 by have := HR.out.len; omega)
  have HLT := Lib.hid HR.out.2.2
  have HG := Lib.hid (GB.made w 24 (.int .i64 n) (.slice A len c))
  have HW := Lib.hid (al w (.cells #[.int .i64 n, .slice A len c] 24))
  have ew : IntKind.i64.wrap v = v := IntWalk.i64_in _ (by omega)
  have t1 : decide (v ≥ 0) = false := by simp; omega
  have NB := Lib.hid (show ∀ W, Es W W.heap.size A len es → Calls Try.prog 26 #[.agg #[.int .i64 n, .slice A len c], .int .i64 v] W fun e w' => e = .returned (.int .u32 ((0 : Nat) : Int)) ∧ Below W.heap.size W w' from fun W hW => neighbors_bad n v A es len c W hW (.inr (.inl hneg)))
  go_enter Try.func8, Try.ntmps8
  go_wp2_with fail
  refine (check_any n A es len c _ (HR.out.new HW.out)).mono ?_
  rintro e w1 ⟨rfl, hb⟩
  rw [HCC.out]
  replace HG := Lib.hid (HG.out.new hb)
  have HB := Lib.hid (bthen HW.out hb (by simp)); clear hb HW
  have g0 := HG.out.c0; have g1 := HG.out.c1; have gl := HG.out.lt
  go_wp2_with fail
  refine (of_any n A len c _).mono ?_
  rintro e w2 ⟨rfl, hb⟩
  replace HG := Lib.hid (HG.out.new hb)
  replace HB := Lib.hid (bthen HB.out hb HB.out.size); clear hb g0 g1 gl
  have g0 := HG.out.c0; have g1 := HG.out.c1; have gl := HG.out.lt
  go_wp2_with fail
  refine (rcheck_any n A es len c _ (HR.out.new HB.out)).mono ?_
  rintro e w3 ⟨rfl, hb⟩
  rw [HCC.out]
  replace HG := Lib.hid (HG.out.new hb)
  replace HB := Lib.hid (bthen HB.out hb HB.out.size); clear hb g0 g1 gl
  have g0 := HG.out.c0; have g1 := HG.out.c1; have gl := HG.out.lt
  generalize hwn : w3 = wn at *
  go_upto_region 11 with (fail)
  refine wp_region_join (kss := [[], [], [(0, 88), (1, 89)], [], [(3, 91)], [], [(4, 92), (5, 93)], [], []]) [(3, .pointer (some ⟨w.heap.size, 0, none⟩)), (2, .int .u32 ((s : Int)))] [fun zz _ => zz = .agg #[.int .i64 ((n : Int)), .slice A len c], fun zz _ => zz = .int .u32 ((s : Int)), Gv n (indL es s), fun zz _ => zz = .agg #[.int .i64 ((n : Int)), .slice A len c], fun zz _ => zz = .agg #[.int .i64 ((n : Int)), .slice A len c], fun zz _ => zz = .int .u32 ((s : Int)), Gv n (indL es s), Zg 24 wn.heap.size, Zg 26 wn.heap.size] 9 [] (by kernel_rfl) (by kernel_rfl) ⟨rfl, rfl, trivial⟩ [false, false, false, false, false, false, false, true, true] ?_ ?_ ?_ ?_
  · exact fun i hi => absurd hi (by simp)
  · exact ⟨fun _ _ _ h _ => h, fun _ _ _ h _ => h, fun _ _ _ h hb => Gv.new h hb, fun _ _ _ h _ => h, fun _ _ _ h _ => h, fun _ _ _ h _ => h, fun _ _ _ h hb => Gv.new h hb, fun _ _ _ h hb => Zg.new h hb, fun _ _ _ h hb => Zg.new h hb, trivial⟩
  · refine ⟨?_, ?_, ?_, ?_, ?_, ?_, ?_, ?_, ?_, trivial⟩
    · exact fun aa ww hb he hd => ob_plain rfl (load_gr rfl rfl he.1 (GB.new HG.out hb))
    · exact fun aa ww hb he hd => ob_plain rfl (gives_move _ rfl ⟨he.2.1, Below.refl _ _⟩)
    · exact fun aa ww hb he hd => ob_plain rfl (gives_call2 _ _ _ _ rfl (by kernel_rfl) (by rw [show aa.eval (.tmp 88) = .agg #[.int .i64 ((n : Int)), .slice A len c] from hd.1, show aa.eval (.tmp 89) = .int .u32 ((s : Int)) from hd.2.1]; exact id (induced_v (HR.out.new (bthen HB.out hb HB.out.size)) HCC.out HS.out)))
    · exact fun aa ww hb he hd => ob_plain rfl (load_gr rfl rfl he.1 (GB.new HG.out hb))
    · exact fun aa ww hb he hd => ob_plain rfl (gives_call1 _ _ _ rfl (by kernel_rfl) (by rw [show aa.eval (.tmp 91) = .agg #[.int .i64 ((n : Int)), .slice A len c] from hd.1]; exact rv_one (of_any n A len c _)))
    · exact fun aa ww hb he hd => ob_plain rfl (gives_move _ rfl ⟨he.2.1, Below.refl _ _⟩)
    · exact fun aa ww hb he hd => ob_plain rfl (gives_call2 _ _ _ _ rfl (by kernel_rfl) (by rw [show aa.eval (.tmp 92) = .agg #[.int .i64 ((n : Int)), .slice A len c] from hd.1, show aa.eval (.tmp 93) = .int .u32 ((s : Int)) from hd.2.1]; exact id (rinduced_v (HR.out.new (bthen HB.out hb HB.out.size)) HL.out HS.out)))
    · exact fun aa ww hb he hd => ⟨by simp [Region.wanted], alloc_hg rfl hb⟩
    · exact fun aa ww hb he hd => ⟨by simp [Region.wanted], alloc_rg rfl hb⟩
  intro vs w5 hb hR hN
  have r0 : Gv n (indL es s) (vs 2) w5 := hR 2 (by omega)
  have r1 : Gv n (indL es s) (vs 6) w5 := hR 6 (by omega)
  obtain ⟨gx, k0, b0, z0⟩ : Zg 24 wn.heap.size (vs 7) w5 := hR 7 (by omega)
  obtain ⟨gy, k1, b1, z1⟩ : Zg 26 wn.heap.size (vs 8) w5 := hR 8 (by omega)
  clear hN hR
  simp only [putsL, Nat.zero_add, Nat.reduceAdd, List.take_succ_cons, List.take_zero, Act.put, List.setIfInBounds_toArray, List.set_cons_zero, List.set_cons_succ]
  rw [k0, k1]
  clear k0 k1
  generalize vs 2 = u0 at *
  generalize vs 6 = u1 at *
  show wpAny _ _ _ _ 2 _ _ _
  have nxy : gx ≠ gy := Blk.ne_ z0 z1 (by decide)
  have hgx : GB w5 w.heap.size 24 (.int .i64 n) (.slice A len c) := HG.out.new hb
  have hgxl := HG.out.lt
  refine wpAny_next (i := 9) (by kernel_rfl) rfl rfl (store_g (graph_size (.int .i64 0) (.slice none 0 0)) rfl rfl rfl rfl z0 (by decide) r0 ?_)
  intro s0 y0 x0
  replace r1 := r1.far z0 (by decide) (.int .i64 n) s0
  replace z1 := GB.far (GB.far z1 (p := ⟨gx, 0, none⟩) (Ne.symm nxy) (.int .i64 n)) (p := ⟨gx, 1, none⟩) (Ne.symm nxy) s0
  have hb0 := two_below hb (g := gx) b0 (.int .i64 n) s0
  refine wpAny_next (i := 10) (by kernel_rfl) rfl rfl (store_g (rgraph_size (.int .i64 0) (.slice none 0 0)) rfl rfl rfl rfl z1 (by decide) r1 ?_)
  intro s1 y1 x1
  have hb1 := two_below hb0 (g := gy) b1 (.int .i64 n) s1
  replace y0 := y0.far z1 (by decide) (.int .i64 n) s1
  replace x0 := GB.far (GB.far x0 (p := ⟨gy, 0, none⟩) nxy (.int .i64 n)) (p := ⟨gy, 1, none⟩) nxy s1
  refine wpAny_end (by kernel_rfl) (calm_normal ?_) _
  generalize ((((w5.setCell ⟨gx, 0, none⟩ (.int .i64 n)).setCell ⟨gx, 1, none⟩ s0).setCell ⟨gy, 0, none⟩ (.int .i64 n)).setCell ⟨gy, 1, none⟩ s1) = w6 at *
  replace HG := Lib.hid (HG.out.new hb1)
  replace HB := Lib.hid (bthen HB.out hb1 HB.out.size)
  have HX := Lib.hid x0; have HY := Lib.hid x1; have SX := Lib.hid y0; have SY := Lib.hid y1
  clear hb hb0 hb1 r0 r1 z0 z1 x0 x1 y0 y1 hgx hgxl b0 b1 g0 g1 gl
  have g0 := HG.out.c0; have g1 := HG.out.c1; have gl := HG.out.lt
  go_wp2_with fail
  refine (inside_ok n s A es len c _ (HR.out.new HB.out) HCC.out hs).mono ?_
  rintro e w7 ⟨rfl, hb⟩
  obtain ⟨fa, hfa⟩ : ∃ x, x = firstAt (holdsB s) es := ⟨_, rfl⟩
  have FA := Lib.hid (firstAt_ge (holdsB s) es)
  rw [← hfa] at FA ⊢
  obtain ⟨an, han⟩ : ∃ x, x = es.any (holdsB s) := ⟨_, rfl⟩
  rw [← han] at FA ⊢
  clear han
  replace HG := Lib.hid (HG.out.new hb); replace HX := Lib.hid (HX.out.new hb); replace HY := Lib.hid (HY.out.new hb); replace SX := Lib.hid (SX.out.new hb); replace SY := Lib.hid (SY.out.new hb)
  replace HB := Lib.hid (bthen HB.out hb HB.out.size); clear hb g0 g1 gl
  have g0 := HG.out.c0; have g1 := HG.out.c1; have gl := HG.out.lt
  go_wp2_with fail
  refine (of_any n A len c _).mono ?_
  rintro e w8 ⟨rfl, hb⟩
  replace HG := Lib.hid (HG.out.new hb); replace HX := Lib.hid (HX.out.new hb); replace HY := Lib.hid (HY.out.new hb); replace SX := Lib.hid (SX.out.new hb); replace SY := Lib.hid (SY.out.new hb)
  replace HB := Lib.hid (bthen HB.out hb HB.out.size); clear hb g0 g1 gl
  go_wp2_with fail
  refine (rinside_any n A es len c s _ (HR.out.new HB.out) hs).mono ?_
  rintro e w9 ⟨rfl, hb⟩
  rw [← hfa]
  clear hfa
  replace HG := Lib.hid (HG.out.new hb); replace HX := Lib.hid (HX.out.new hb); replace HY := Lib.hid (HY.out.new hb); replace SX := Lib.hid (SX.out.new hb); replace SY := Lib.hid (SY.out.new hb)
  replace HB := Lib.hid (bthen HB.out hb HB.out.size); clear hb
  go_upto_region 14 with (fail)
  refine wp_region_join (kss := [[], [(0, 105)], [(1, 106)], [(1, 106), (2, 107)], [(1, 106), (3, 108)], [(4, 109)], [(5, 110)], [(5, 110)], [(5, 110), (7, 112)], [(5, 110), (6, 111), (8, 113)], [(5, 110)], [(5, 110), (9, 114), (10, 115)], [(5, 110), (11, 116)], [(12, 117)], [(13, 118)], [(13, 118), (14, 119)], [(13, 118)], [(13, 118), (16, 121)], [(13, 118), (15, 120), (17, 122)], [(13, 118), (18, 123)], [(19, 124)], [(20, 125)], [(20, 125), (21, 126)], [(20, 125)], [(20, 125), (23, 128)], [(20, 125), (22, 127), (24, 129)], [(20, 125), (25, 130)], [(26, 131)], [(27, 132)], [(27, 132)], [(27, 132), (29, 134)], [(27, 132), (28, 133), (30, 135)], [(27, 132), (31, 136)], [(32, 137)], [(33, 138)], [(33, 138)], [(33, 138), (35, 140)], [(33, 138), (34, 139), (36, 141)], [(33, 138), (37, 142)], [(38, 143)], [(39, 144)], [(39, 144), (40, 145)], [(39, 144)], [(39, 144), (42, 147)], [(39, 144), (43, 148)], [(39, 144), (41, 146), (44, 149)], [(39, 144), (45, 150)]]) [(7, .int .i64 0), (3, .pointer (some ⟨w.heap.size, 0, none⟩)), (1, .int .i8 v), (11, .int .u32 (((0 : Nat) : Int))), (12, .pointer (some ⟨gx, 0, none⟩)), (13, .pointer (some ⟨gy, 0, none⟩)), (15, .bool an), (16, .int .i64 fa), (14, .int .i64 (max fa 0))] [fun zz _ => zz = .bool true, fun zz _ => zz = .bool true, fun zz _ => zz = .int .i64 0, fun zz _ => zz = .bool true, fun zz _ => zz = .bool true, fun zz _ => zz = .bool true, fun zz _ => zz = .agg #[.int .i64 ((n : Int)), .slice A len c], fun zz _ => zz = .int .i8 v, fun zz _ => zz = .int .i64 v, fun zz _ => zz = .int .u32 (((0 : Nat) : Int)), fun zz _ => zz = .int .u32 (((0 : Nat) : Int)), fun zz _ => zz = .bool true, fun zz _ => zz = .bool true, fun zz _ => zz = .bool true, fun zz _ => zz = .pointer (some ⟨gx, 0, none⟩), fun zz _ => zz = .int .i64 ((n : Int)), fun zz _ => zz = .pointer (some ⟨gy, 0, none⟩), fun zz _ => zz = .int .i64 ((n : Int)), fun zz _ => zz = .bool true, fun zz _ => zz = .bool true, fun zz _ => zz = .bool true, fun zz _ => zz = .pointer (some ⟨gx, 1, none⟩), fun zz _ => zz = s0, fun zz _ => zz = .pointer (some ⟨gy, 1, none⟩), fun zz _ => zz = s1, fun zz _ => zz = .bool true, fun zz _ => zz = .bool true, fun zz _ => zz = .bool true, fun zz _ => zz = .bool an, fun zz _ => zz = .int .i64 fa, fun zz _ => zz = .bool (decide (fa ≥ 0)), fun zz _ => zz = .bool true, fun zz _ => zz = .bool true, fun zz _ => zz = .bool true, fun zz _ => zz = .int .i64 (max fa 0), fun zz _ => zz = .int .i64 fa, fun zz _ => zz = .int .i64 (max fa 0), fun zz _ => zz = .bool true, fun zz _ => zz = .bool true, fun zz _ => zz = .bool true, fun zz _ => zz = .agg #[.int .i64 ((n : Int)), .slice A len c], Sv (rcm es n n).1, fun zz _ => zz = .agg #[.int .i64 ((n : Int)), .slice A len c], fun zz _ => zz = .agg #[.int .i64 ((n : Int)), .slice A len c], Sv (rcm es n n).1, fun zz _ => zz = .bool true, fun zz _ => zz = .bool true] 47 [] (by kernel_rfl) (by kernel_rfl) ⟨rfl, rfl, rfl, rfl, rfl, rfl, rfl, rfl, rfl, trivial⟩ [false, false, false, false, false, false, false, false, false, false, false, false, false, false, false, false, false, false, false, false, false, false, false, false, false, false, false, false, false, false, false, false, false, false, false, false, false, false, false, false, false, false, false, false, false, false, false] ?_ ?_ ?_ ?_
  · exact fun i hi => absurd hi (by simp)
  · exact ⟨fun _ _ _ h _ => h, fun _ _ _ h _ => h, fun _ _ _ h _ => h, fun _ _ _ h _ => h, fun _ _ _ h _ => h, fun _ _ _ h _ => h, fun _ _ _ h _ => h, fun _ _ _ h _ => h, fun _ _ _ h _ => h, fun _ _ _ h _ => h, fun _ _ _ h _ => h, fun _ _ _ h _ => h, fun _ _ _ h _ => h, fun _ _ _ h _ => h, fun _ _ _ h _ => h, fun _ _ _ h _ => h, fun _ _ _ h _ => h, fun _ _ _ h _ => h, fun _ _ _ h _ => h, fun _ _ _ h _ => h, fun _ _ _ h _ => h, fun _ _ _ h _ => h, fun _ _ _ h _ => h, fun _ _ _ h _ => h, fun _ _ _ h _ => h, fun _ _ _ h _ => h, fun _ _ _ h _ => h, fun _ _ _ h _ => h, fun _ _ _ h _ => h, fun _ _ _ h _ => h, fun _ _ _ h _ => h, fun _ _ _ h _ => h, fun _ _ _ h _ => h, fun _ _ _ h _ => h, fun _ _ _ h _ => h, fun _ _ _ h _ => h, fun _ _ _ h _ => h, fun _ _ _ h _ => h, fun _ _ _ h _ => h, fun _ _ _ h _ => h, fun _ _ _ h _ => h, fun _ _ _ h hb => Sv.new h hb, fun _ _ _ h _ => h, fun _ _ _ h _ => h, fun _ _ _ h hb => Sv.new h hb, fun _ _ _ h _ => h, fun _ _ _ h _ => h, trivial⟩
  · refine ⟨?_, ?_, ?_, ?_, ?_, ?_, ?_, ?_, ?_, ?_, ?_, ?_, ?_, ?_, ?_, ?_, ?_, ?_, ?_, ?_, ?_, ?_, ?_, ?_, ?_, ?_, ?_, ?_, ?_, ?_, ?_, ?_, ?_, ?_, ?_, ?_, ?_, ?_, ?_, ?_, ?_, ?_, ?_, ?_, ?_, ?_, ?_, trivial⟩
    · exact fun aa ww hb he hd => ob_plain rfl (gives_call0 _ _ rfl (by kernel_rfl) (rv_one (awake26_any _)))
    · exact fun aa ww hb he hd => ob_plain rfl (gives_move _ rfl ⟨hd.1, Below.refl _ _⟩)
    · exact fun aa ww hb he hd => ob_on 106 rfl (by kernel_rfl) hd.1 (gives_move _ rfl ⟨he.1, Below.refl _ _⟩)
    · exact fun aa ww hb he hd => ob_on 106 rfl (by kernel_rfl) hd.1 (gives_eq_int 0 0 .i64 _ _ _ _ rfl hd.2.1 rfl ⟨congrArg Value.bool (by decide), Below.refl _ _⟩)
    · exact fun aa ww hb he hd => ob_plain rfl (gives_pick true _ _ _ rfl hd.1 ⟨hd.2.1, Below.refl _ _⟩)
    · exact fun aa ww hb he hd => ob_plain rfl (gives_move _ rfl ⟨hd.1, Below.refl _ _⟩)
    · exact fun aa ww hb he hd => ob_on 110 rfl (by kernel_rfl) hd.1 (load_gr rfl rfl he.2.1 (GB.new HG.out hb))
    · exact fun aa ww hb he hd => ob_on 110 rfl (by kernel_rfl) hd.1 (gives_move _ rfl ⟨he.2.2.1, Below.refl _ _⟩)
    · exact fun aa ww hb he hd => ob_on 110 rfl (by kernel_rfl) hd.1 (conv_i8 hv rfl hd.2.1)
    · exact fun aa ww hb he hd => ob_on 110 rfl (by kernel_rfl) hd.1 (gives_call2 _ _ _ _ rfl (by kernel_rfl) (by rw [show aa.eval (.tmp 111) = .agg #[.int .i64 ((n : Int)), .slice A len c] from hd.2.1, show aa.eval (.tmp 113) = .int .i64 v from hd.2.2.1]; exact rv_one (NB.out _ (HR.out.new (bthen HB.out hb HB.out.size)))))
    · exact fun aa ww hb he hd => ob_on 110 rfl (by kernel_rfl) hd.1 (gives_move _ rfl ⟨he.2.2.2.1, Below.refl _ _⟩)
    · exact fun aa ww hb he hd => ob_on 110 rfl (by kernel_rfl) hd.1 (gives_eq_int (((0 : Nat) : Int)) (((0 : Nat) : Int)) .u32 _ _ _ _ rfl hd.2.1 hd.2.2.1 ⟨congrArg Value.bool (by simp), Below.refl _ _⟩)
    · exact fun aa ww hb he hd => ob_plain rfl (gives_pick true _ _ _ rfl hd.1 ⟨hd.2.1, Below.refl _ _⟩)
    · exact fun aa ww hb he hd => ob_plain rfl (gives_move _ rfl ⟨hd.1, Below.refl _ _⟩)
    · exact fun aa ww hb he hd => ob_on 118 rfl (by kernel_rfl) hd.1 (fld_0 rfl he.2.2.2.2.1)
    · exact fun aa ww hb he hd => ob_on 118 rfl (by kernel_rfl) hd.1 (load_n rfl hd.2.1 (GB.c0 (GB.new HX.out hb)))
    · exact fun aa ww hb he hd => ob_on 118 rfl (by kernel_rfl) hd.1 (fldr_0 rfl he.2.2.2.2.2.1)
    · exact fun aa ww hb he hd => ob_on 118 rfl (by kernel_rfl) hd.1 (load_n rfl hd.2.1 (GB.c0 (GB.new HY.out hb)))
    · exact fun aa ww hb he hd => ob_on 118 rfl (by kernel_rfl) hd.1 (gives_eq_int ((n : Int)) ((n : Int)) .i64 _ _ _ _ rfl hd.2.1 hd.2.2.1 ⟨congrArg Value.bool (by simp), Below.refl _ _⟩)
    · exact fun aa ww hb he hd => ob_plain rfl (gives_pick true _ _ _ rfl hd.1 ⟨hd.2.1, Below.refl _ _⟩)
    · exact fun aa ww hb he hd => ob_plain rfl (gives_move _ rfl ⟨hd.1, Below.refl _ _⟩)
    · exact fun aa ww hb he hd => ob_on 125 rfl (by kernel_rfl) hd.1 (fld_1 rfl he.2.2.2.2.1)
    · exact fun aa ww hb he hd => ob_on 125 rfl (by kernel_rfl) hd.1 (load_es rfl hd.2.1 (GB.c1 (GB.new HX.out hb)))
    · exact fun aa ww hb he hd => ob_on 125 rfl (by kernel_rfl) hd.1 (fldr_1 rfl he.2.2.2.2.2.1)
    · exact fun aa ww hb he hd => ob_on 125 rfl (by kernel_rfl) hd.1 (load_es rfl hd.2.1 (GB.c1 (GB.new HY.out hb)))
    · exact fun aa ww hb he hd => ob_on 125 rfl (by kernel_rfl) hd.1 (gives_call2 _ _ _ _ rfl (by kernel_rfl) (by rw [show aa.eval (.tmp 127) = s0 from hd.2.1, show aa.eval (.tmp 129) = s1 from hd.2.2.1]; exact id (equal_sv (SX.out.new hb) (SY.out.new hb) (Nat.le_trans (indL_length es s) (by have := HLE.out; omega)) (indL_lt HLT.out))))
    · exact fun aa ww hb he hd => ob_plain rfl (gives_pick true _ _ _ rfl hd.1 ⟨hd.2.1, Below.refl _ _⟩)
    · exact fun aa ww hb he hd => ob_plain rfl (gives_move _ rfl ⟨hd.1, Below.refl _ _⟩)
    · exact fun aa ww hb he hd => ob_on 132 rfl (by kernel_rfl) hd.1 (gives_move _ rfl ⟨he.2.2.2.2.2.2.1, Below.refl _ _⟩)
    · exact fun aa ww hb he hd => ob_on 132 rfl (by kernel_rfl) hd.1 (gives_move _ rfl ⟨he.2.2.2.2.2.2.2.1, Below.refl _ _⟩)
    · exact fun aa ww hb he hd => ob_on 132 rfl (by kernel_rfl) hd.1 (gives_ge_int fa 0 .i64 _ _ _ _ rfl hd.2.1 rfl ⟨rfl, Below.refl _ _⟩)
    · exact fun aa ww hb he hd => ob_on 132 rfl (by kernel_rfl) hd.1 (gives_eq_bool an (decide (fa ≥ 0)) _ _ _ _ rfl Try.underlying4 hd.2.1 hd.2.2.1 ⟨congrArg Value.bool (by rw [← FA.out]; simp), Below.refl _ _⟩)
    · exact fun aa ww hb he hd => ob_plain rfl (gives_pick true _ _ _ rfl hd.1 ⟨hd.2.1, Below.refl _ _⟩)
    · exact fun aa ww hb he hd => ob_plain rfl (gives_move _ rfl ⟨hd.1, Below.refl _ _⟩)
    · exact fun aa ww hb he hd => ob_on 138 rfl (by kernel_rfl) hd.1 (gives_move _ rfl ⟨he.2.2.2.2.2.2.2.2.1, Below.refl _ _⟩)
    · exact fun aa ww hb he hd => ob_on 138 rfl (by kernel_rfl) hd.1 (gives_move _ rfl ⟨he.2.2.2.2.2.2.2.1, Below.refl _ _⟩)
    · exact fun aa ww hb he hd => ob_on 138 rfl (by kernel_rfl) hd.1 (max_c rfl hd.2.1)
    · exact fun aa ww hb he hd => ob_on 138 rfl (by kernel_rfl) hd.1 (gives_eq_int (max fa 0) (max fa 0) .i64 _ _ _ _ rfl hd.2.1 hd.2.2.1 ⟨congrArg Value.bool (by simp), Below.refl _ _⟩)
    · exact fun aa ww hb he hd => ob_plain rfl (gives_pick true _ _ _ rfl hd.1 ⟨hd.2.1, Below.refl _ _⟩)
    · exact fun aa ww hb he hd => ob_plain rfl (gives_move _ rfl ⟨hd.1, Below.refl _ _⟩)
    · exact fun aa ww hb he hd => ob_on 144 rfl (by kernel_rfl) hd.1 (load_gr rfl rfl he.2.1 (GB.new HG.out hb))
    · exact fun aa ww hb he hd => ob_on 144 rfl (by kernel_rfl) hd.1 (gives_call1 _ _ _ rfl (by kernel_rfl) (by rw [show aa.eval (.tmp 145) = .agg #[.int .i64 ((n : Int)), .slice A len c] from hd.2.1]; exact id (comps_sv (HR.out.new (bthen HB.out hb HB.out.size)) HL.out HCC.out)))
    · exact fun aa ww hb he hd => ob_on 144 rfl (by kernel_rfl) hd.1 (load_gr rfl rfl he.2.1 (GB.new HG.out hb))
    · exact fun aa ww hb he hd => ob_on 144 rfl (by kernel_rfl) hd.1 (gives_call1 _ _ _ rfl (by kernel_rfl) (by rw [show aa.eval (.tmp 147) = .agg #[.int .i64 ((n : Int)), .slice A len c] from hd.2.1]; exact rv_one (of_any n A len c _)))
    · exact fun aa ww hb he hd => ob_on 144 rfl (by kernel_rfl) hd.1 (gives_call1 _ _ _ rfl (by kernel_rfl) (by rw [show aa.eval (.tmp 148) = .agg #[.int .i64 ((n : Int)), .slice A len c] from hd.2.1]; exact id (rcomps_sv (HR.out.new (bthen HB.out hb HB.out.size)) HL.out HCC.out)))
    · exact fun aa ww hb he hd => ob_on 144 rfl (by kernel_rfl) hd.1 (gives_call2 _ _ _ _ rfl (by kernel_rfl) (equal_sv hd.2.1 hd.2.2.1 (Nat.le_trans (rcm_len es n n) (by have := HN.out; omega)) (rcm_lt HN.out HES.out)))
    · exact fun aa ww hb he hd => ob_plain rfl (gives_pick true _ _ _ rfl hd.1 ⟨hd.2.1, Below.refl _ _⟩)
  intro vs w10 hb hR _
  have e151 : vs 46 = .bool true := hR 46 (by decide)
  clear hR
  simp only [putsL, Nat.zero_add, Nat.reduceAdd, List.take_succ_cons, List.take_zero, Act.put, List.setIfInBounds_toArray, List.set_cons_zero, List.set_cons_succ]
  rw [e151]
  clear e151
  show wpAny _ _ _ _ 1 _ _ _
  refine wpAny_next (i := 47) (by kernel_rfl) rfl rfl (wp_assign 6 (.tmp 151) rfl rfl (.bool true) rfl ?_)
  simp only [Act.put, List.setIfInBounds_toArray, List.set_cons_zero, List.set_cons_succ]
  refine wpAny_end (by kernel_rfl) (calm_normal ?_) _
  replace HB := Lib.hid (bthen HB.out hb HB.out.size)
  go_wp2_with fail
  go_ret
  exact ⟨rfl, HB.out⟩
set_option maxRecDepth 100000 in
set_option maxHeartbeats 8000000 in
theorem basics_big (n : Nat) (A : Option Addr) (es : List Nat) (len c : Nat) (v : Int) (s : Nat) (w : World) (hr : Es w w.heap.size A len es) (hl : len ≤ 70) (hv : -128 ≤ v ∧ v ≤ 127) (hs : s < 4294967296) (hcc : checkCode n es = 0) (hpos : 0 ≤ v) (hbig : (n : Int) ≤ v) :
    Calls Try.prog 8 #[.agg #[.int .i64 n, .slice A len c], .int .i8 v, .int .u32 s] w fun e w' => e = .returned (.bool true) ∧ Below w.heap.size w w' := by
  obtain ⟨_, hn32, _, hes⟩ := checkCode_zero hcc
  have HES := Lib.hid (show ∀ e ∈ es, e < 2 ^ n by simpa using hes); clear hes
  have HN := Lib.hid (show n ≤ 32 by omega); clear hn32
  have HR := Lib.hid hr; clear hr
  have HL := Lib.hid hl
  have HS := Lib.hid hs
  have HCC := Lib.hid hcc; clear hcc
  have HLE := Lib.hid (show es.length ≤ 70 by have := HR.out.len; omega)
  have HLT := Lib.hid HR.out.2.2
  have HG := Lib.hid (GB.made w 24 (.int .i64 n) (.slice A len c))
  have HW := Lib.hid (al w (.cells #[.int .i64 n, .slice A len c] 24))
  have ew : IntKind.i64.wrap v = v := IntWalk.i64_in _ (by omega)
  have t1 : decide (v ≥ 0) = true := by simp; omega
  have t2 : decide (v < (n : Int)) = false := by simp; omega
  have NB := Lib.hid (show ∀ W, Es W W.heap.size A len es → Calls Try.prog 26 #[.agg #[.int .i64 n, .slice A len c], .int .i64 v] W fun e w' => e = .returned (.int .u32 ((0 : Nat) : Int)) ∧ Below W.heap.size W w' from fun W hW => neighbors_bad n v A es len c W hW (.inr (.inr hbig)))
  go_enter Try.func8, Try.ntmps8
  go_wp2_with fail
  refine (check_any n A es len c _ (HR.out.new HW.out)).mono ?_
  rintro e w1 ⟨rfl, hb⟩
  rw [HCC.out]
  replace HG := Lib.hid (HG.out.new hb)
  have HB := Lib.hid (bthen HW.out hb (by simp)); clear hb HW
  have g0 := HG.out.c0; have g1 := HG.out.c1; have gl := HG.out.lt
  go_wp2_with fail
  refine (of_any n A len c _).mono ?_
  rintro e w2 ⟨rfl, hb⟩
  replace HG := Lib.hid (HG.out.new hb)
  replace HB := Lib.hid (bthen HB.out hb HB.out.size); clear hb g0 g1 gl
  have g0 := HG.out.c0; have g1 := HG.out.c1; have gl := HG.out.lt
  go_wp2_with fail
  refine (rcheck_any n A es len c _ (HR.out.new HB.out)).mono ?_
  rintro e w3 ⟨rfl, hb⟩
  rw [HCC.out]
  replace HG := Lib.hid (HG.out.new hb)
  replace HB := Lib.hid (bthen HB.out hb HB.out.size); clear hb g0 g1 gl
  have g0 := HG.out.c0; have g1 := HG.out.c1; have gl := HG.out.lt
  generalize hwn : w3 = wn at *
  go_upto_region 11 with (fail)
  refine wp_region_join (kss := [[], [], [(0, 88), (1, 89)], [], [(3, 91)], [], [(4, 92), (5, 93)], [], []]) [(3, .pointer (some ⟨w.heap.size, 0, none⟩)), (2, .int .u32 ((s : Int)))] [fun zz _ => zz = .agg #[.int .i64 ((n : Int)), .slice A len c], fun zz _ => zz = .int .u32 ((s : Int)), Gv n (indL es s), fun zz _ => zz = .agg #[.int .i64 ((n : Int)), .slice A len c], fun zz _ => zz = .agg #[.int .i64 ((n : Int)), .slice A len c], fun zz _ => zz = .int .u32 ((s : Int)), Gv n (indL es s), Zg 24 wn.heap.size, Zg 26 wn.heap.size] 9 [] (by kernel_rfl) (by kernel_rfl) ⟨rfl, rfl, trivial⟩ [false, false, false, false, false, false, false, true, true] ?_ ?_ ?_ ?_
  · exact fun i hi => absurd hi (by simp)
  · exact ⟨fun _ _ _ h _ => h, fun _ _ _ h _ => h, fun _ _ _ h hb => Gv.new h hb, fun _ _ _ h _ => h, fun _ _ _ h _ => h, fun _ _ _ h _ => h, fun _ _ _ h hb => Gv.new h hb, fun _ _ _ h hb => Zg.new h hb, fun _ _ _ h hb => Zg.new h hb, trivial⟩
  · refine ⟨?_, ?_, ?_, ?_, ?_, ?_, ?_, ?_, ?_, trivial⟩
    · exact fun aa ww hb he hd => ob_plain rfl (load_gr rfl rfl he.1 (GB.new HG.out hb))
    · exact fun aa ww hb he hd => ob_plain rfl (gives_move _ rfl ⟨he.2.1, Below.refl _ _⟩)
    · exact fun aa ww hb he hd => ob_plain rfl (gives_call2 _ _ _ _ rfl (by kernel_rfl) (by rw [show aa.eval (.tmp 88) = .agg #[.int .i64 ((n : Int)), .slice A len c] from hd.1, show aa.eval (.tmp 89) = .int .u32 ((s : Int)) from hd.2.1]; exact id (induced_v (HR.out.new (bthen HB.out hb HB.out.size)) HCC.out HS.out)))
    · exact fun aa ww hb he hd => ob_plain rfl (load_gr rfl rfl he.1 (GB.new HG.out hb))
    · exact fun aa ww hb he hd => ob_plain rfl (gives_call1 _ _ _ rfl (by kernel_rfl) (by rw [show aa.eval (.tmp 91) = .agg #[.int .i64 ((n : Int)), .slice A len c] from hd.1]; exact rv_one (of_any n A len c _)))
    · exact fun aa ww hb he hd => ob_plain rfl (gives_move _ rfl ⟨he.2.1, Below.refl _ _⟩)
    · exact fun aa ww hb he hd => ob_plain rfl (gives_call2 _ _ _ _ rfl (by kernel_rfl) (by rw [show aa.eval (.tmp 92) = .agg #[.int .i64 ((n : Int)), .slice A len c] from hd.1, show aa.eval (.tmp 93) = .int .u32 ((s : Int)) from hd.2.1]; exact id (rinduced_v (HR.out.new (bthen HB.out hb HB.out.size)) HL.out HS.out)))
    · exact fun aa ww hb he hd => ⟨by simp [Region.wanted], alloc_hg rfl hb⟩
    · exact fun aa ww hb he hd => ⟨by simp [Region.wanted], alloc_rg rfl hb⟩
  intro vs w5 hb hR hN
  have r0 : Gv n (indL es s) (vs 2) w5 := hR 2 (by omega)
  have r1 : Gv n (indL es s) (vs 6) w5 := hR 6 (by omega)
  obtain ⟨gx, k0, b0, z0⟩ : Zg 24 wn.heap.size (vs 7) w5 := hR 7 (by omega)
  obtain ⟨gy, k1, b1, z1⟩ : Zg 26 wn.heap.size (vs 8) w5 := hR 8 (by omega)
  clear hN hR
  simp only [putsL, Nat.zero_add, Nat.reduceAdd, List.take_succ_cons, List.take_zero, Act.put, List.setIfInBounds_toArray, List.set_cons_zero, List.set_cons_succ]
  rw [k0, k1]
  clear k0 k1
  generalize vs 2 = u0 at *
  generalize vs 6 = u1 at *
  show wpAny _ _ _ _ 2 _ _ _
  have nxy : gx ≠ gy := Blk.ne_ z0 z1 (by decide)
  have hgx : GB w5 w.heap.size 24 (.int .i64 n) (.slice A len c) := HG.out.new hb
  have hgxl := HG.out.lt
  refine wpAny_next (i := 9) (by kernel_rfl) rfl rfl (store_g (graph_size (.int .i64 0) (.slice none 0 0)) rfl rfl rfl rfl z0 (by decide) r0 ?_)
  intro s0 y0 x0
  replace r1 := r1.far z0 (by decide) (.int .i64 n) s0
  replace z1 := GB.far (GB.far z1 (p := ⟨gx, 0, none⟩) (Ne.symm nxy) (.int .i64 n)) (p := ⟨gx, 1, none⟩) (Ne.symm nxy) s0
  have hb0 := two_below hb (g := gx) b0 (.int .i64 n) s0
  refine wpAny_next (i := 10) (by kernel_rfl) rfl rfl (store_g (rgraph_size (.int .i64 0) (.slice none 0 0)) rfl rfl rfl rfl z1 (by decide) r1 ?_)
  intro s1 y1 x1
  have hb1 := two_below hb0 (g := gy) b1 (.int .i64 n) s1
  replace y0 := y0.far z1 (by decide) (.int .i64 n) s1
  replace x0 := GB.far (GB.far x0 (p := ⟨gy, 0, none⟩) nxy (.int .i64 n)) (p := ⟨gy, 1, none⟩) nxy s1
  refine wpAny_end (by kernel_rfl) (calm_normal ?_) _
  generalize ((((w5.setCell ⟨gx, 0, none⟩ (.int .i64 n)).setCell ⟨gx, 1, none⟩ s0).setCell ⟨gy, 0, none⟩ (.int .i64 n)).setCell ⟨gy, 1, none⟩ s1) = w6 at *
  replace HG := Lib.hid (HG.out.new hb1)
  replace HB := Lib.hid (bthen HB.out hb1 HB.out.size)
  have HX := Lib.hid x0; have HY := Lib.hid x1; have SX := Lib.hid y0; have SY := Lib.hid y1
  clear hb hb0 hb1 r0 r1 z0 z1 x0 x1 y0 y1 hgx hgxl b0 b1 g0 g1 gl
  have g0 := HG.out.c0; have g1 := HG.out.c1; have gl := HG.out.lt
  go_wp2_with fail
  refine (inside_ok n s A es len c _ (HR.out.new HB.out) HCC.out hs).mono ?_
  rintro e w7 ⟨rfl, hb⟩
  obtain ⟨fa, hfa⟩ : ∃ x, x = firstAt (holdsB s) es := ⟨_, rfl⟩
  have FA := Lib.hid (firstAt_ge (holdsB s) es)
  rw [← hfa] at FA ⊢
  obtain ⟨an, han⟩ : ∃ x, x = es.any (holdsB s) := ⟨_, rfl⟩
  rw [← han] at FA ⊢
  clear han
  replace HG := Lib.hid (HG.out.new hb); replace HX := Lib.hid (HX.out.new hb); replace HY := Lib.hid (HY.out.new hb); replace SX := Lib.hid (SX.out.new hb); replace SY := Lib.hid (SY.out.new hb)
  replace HB := Lib.hid (bthen HB.out hb HB.out.size); clear hb g0 g1 gl
  have g0 := HG.out.c0; have g1 := HG.out.c1; have gl := HG.out.lt
  go_wp2_with fail
  refine (of_any n A len c _).mono ?_
  rintro e w8 ⟨rfl, hb⟩
  replace HG := Lib.hid (HG.out.new hb); replace HX := Lib.hid (HX.out.new hb); replace HY := Lib.hid (HY.out.new hb); replace SX := Lib.hid (SX.out.new hb); replace SY := Lib.hid (SY.out.new hb)
  replace HB := Lib.hid (bthen HB.out hb HB.out.size); clear hb g0 g1 gl
  go_wp2_with fail
  refine (rinside_any n A es len c s _ (HR.out.new HB.out) hs).mono ?_
  rintro e w9 ⟨rfl, hb⟩
  rw [← hfa]
  clear hfa
  replace HG := Lib.hid (HG.out.new hb); replace HX := Lib.hid (HX.out.new hb); replace HY := Lib.hid (HY.out.new hb); replace SX := Lib.hid (SX.out.new hb); replace SY := Lib.hid (SY.out.new hb)
  replace HB := Lib.hid (bthen HB.out hb HB.out.size); clear hb
  go_upto_region 14 with (fail)
  refine wp_region_join (kss := [[], [(0, 105)], [(1, 106)], [(1, 106), (2, 107)], [(1, 106), (3, 108)], [(4, 109)], [(5, 110)], [(5, 110)], [(5, 110), (7, 112)], [(5, 110), (6, 111), (8, 113)], [(5, 110)], [(5, 110), (9, 114), (10, 115)], [(5, 110), (11, 116)], [(12, 117)], [(13, 118)], [(13, 118), (14, 119)], [(13, 118)], [(13, 118), (16, 121)], [(13, 118), (15, 120), (17, 122)], [(13, 118), (18, 123)], [(19, 124)], [(20, 125)], [(20, 125), (21, 126)], [(20, 125)], [(20, 125), (23, 128)], [(20, 125), (22, 127), (24, 129)], [(20, 125), (25, 130)], [(26, 131)], [(27, 132)], [(27, 132)], [(27, 132), (29, 134)], [(27, 132), (28, 133), (30, 135)], [(27, 132), (31, 136)], [(32, 137)], [(33, 138)], [(33, 138)], [(33, 138), (35, 140)], [(33, 138), (34, 139), (36, 141)], [(33, 138), (37, 142)], [(38, 143)], [(39, 144)], [(39, 144), (40, 145)], [(39, 144)], [(39, 144), (42, 147)], [(39, 144), (43, 148)], [(39, 144), (41, 146), (44, 149)], [(39, 144), (45, 150)]]) [(7, .int .i64 0), (3, .pointer (some ⟨w.heap.size, 0, none⟩)), (1, .int .i8 v), (11, .int .u32 (((0 : Nat) : Int))), (12, .pointer (some ⟨gx, 0, none⟩)), (13, .pointer (some ⟨gy, 0, none⟩)), (15, .bool an), (16, .int .i64 fa), (14, .int .i64 (max fa 0))] [fun zz _ => zz = .bool true, fun zz _ => zz = .bool true, fun zz _ => zz = .int .i64 0, fun zz _ => zz = .bool true, fun zz _ => zz = .bool true, fun zz _ => zz = .bool true, fun zz _ => zz = .agg #[.int .i64 ((n : Int)), .slice A len c], fun zz _ => zz = .int .i8 v, fun zz _ => zz = .int .i64 v, fun zz _ => zz = .int .u32 (((0 : Nat) : Int)), fun zz _ => zz = .int .u32 (((0 : Nat) : Int)), fun zz _ => zz = .bool true, fun zz _ => zz = .bool true, fun zz _ => zz = .bool true, fun zz _ => zz = .pointer (some ⟨gx, 0, none⟩), fun zz _ => zz = .int .i64 ((n : Int)), fun zz _ => zz = .pointer (some ⟨gy, 0, none⟩), fun zz _ => zz = .int .i64 ((n : Int)), fun zz _ => zz = .bool true, fun zz _ => zz = .bool true, fun zz _ => zz = .bool true, fun zz _ => zz = .pointer (some ⟨gx, 1, none⟩), fun zz _ => zz = s0, fun zz _ => zz = .pointer (some ⟨gy, 1, none⟩), fun zz _ => zz = s1, fun zz _ => zz = .bool true, fun zz _ => zz = .bool true, fun zz _ => zz = .bool true, fun zz _ => zz = .bool an, fun zz _ => zz = .int .i64 fa, fun zz _ => zz = .bool (decide (fa ≥ 0)), fun zz _ => zz = .bool true, fun zz _ => zz = .bool true, fun zz _ => zz = .bool true, fun zz _ => zz = .int .i64 (max fa 0), fun zz _ => zz = .int .i64 fa, fun zz _ => zz = .int .i64 (max fa 0), fun zz _ => zz = .bool true, fun zz _ => zz = .bool true, fun zz _ => zz = .bool true, fun zz _ => zz = .agg #[.int .i64 ((n : Int)), .slice A len c], Sv (rcm es n n).1, fun zz _ => zz = .agg #[.int .i64 ((n : Int)), .slice A len c], fun zz _ => zz = .agg #[.int .i64 ((n : Int)), .slice A len c], Sv (rcm es n n).1, fun zz _ => zz = .bool true, fun zz _ => zz = .bool true] 47 [] (by kernel_rfl) (by kernel_rfl) ⟨rfl, rfl, rfl, rfl, rfl, rfl, rfl, rfl, rfl, trivial⟩ [false, false, false, false, false, false, false, false, false, false, false, false, false, false, false, false, false, false, false, false, false, false, false, false, false, false, false, false, false, false, false, false, false, false, false, false, false, false, false, false, false, false, false, false, false, false, false] ?_ ?_ ?_ ?_
  · exact fun i hi => absurd hi (by simp)
  · exact ⟨fun _ _ _ h _ => h, fun _ _ _ h _ => h, fun _ _ _ h _ => h, fun _ _ _ h _ => h, fun _ _ _ h _ => h, fun _ _ _ h _ => h, fun _ _ _ h _ => h, fun _ _ _ h _ => h, fun _ _ _ h _ => h, fun _ _ _ h _ => h, fun _ _ _ h _ => h, fun _ _ _ h _ => h, fun _ _ _ h _ => h, fun _ _ _ h _ => h, fun _ _ _ h _ => h, fun _ _ _ h _ => h, fun _ _ _ h _ => h, fun _ _ _ h _ => h, fun _ _ _ h _ => h, fun _ _ _ h _ => h, fun _ _ _ h _ => h, fun _ _ _ h _ => h, fun _ _ _ h _ => h, fun _ _ _ h _ => h, fun _ _ _ h _ => h, fun _ _ _ h _ => h, fun _ _ _ h _ => h, fun _ _ _ h _ => h, fun _ _ _ h _ => h, fun _ _ _ h _ => h, fun _ _ _ h _ => h, fun _ _ _ h _ => h, fun _ _ _ h _ => h, fun _ _ _ h _ => h, fun _ _ _ h _ => h, fun _ _ _ h _ => h, fun _ _ _ h _ => h, fun _ _ _ h _ => h, fun _ _ _ h _ => h, fun _ _ _ h _ => h, fun _ _ _ h _ => h, fun _ _ _ h hb => Sv.new h hb, fun _ _ _ h _ => h, fun _ _ _ h _ => h, fun _ _ _ h hb => Sv.new h hb, fun _ _ _ h _ => h, fun _ _ _ h _ => h, trivial⟩
  · refine ⟨?_, ?_, ?_, ?_, ?_, ?_, ?_, ?_, ?_, ?_, ?_, ?_, ?_, ?_, ?_, ?_, ?_, ?_, ?_, ?_, ?_, ?_, ?_, ?_, ?_, ?_, ?_, ?_, ?_, ?_, ?_, ?_, ?_, ?_, ?_, ?_, ?_, ?_, ?_, ?_, ?_, ?_, ?_, ?_, ?_, ?_, ?_, trivial⟩
    · exact fun aa ww hb he hd => ob_plain rfl (gives_call0 _ _ rfl (by kernel_rfl) (rv_one (awake26_any _)))
    · exact fun aa ww hb he hd => ob_plain rfl (gives_move _ rfl ⟨hd.1, Below.refl _ _⟩)
    · exact fun aa ww hb he hd => ob_on 106 rfl (by kernel_rfl) hd.1 (gives_move _ rfl ⟨he.1, Below.refl _ _⟩)
    · exact fun aa ww hb he hd => ob_on 106 rfl (by kernel_rfl) hd.1 (gives_eq_int 0 0 .i64 _ _ _ _ rfl hd.2.1 rfl ⟨congrArg Value.bool (by decide), Below.refl _ _⟩)
    · exact fun aa ww hb he hd => ob_plain rfl (gives_pick true _ _ _ rfl hd.1 ⟨hd.2.1, Below.refl _ _⟩)
    · exact fun aa ww hb he hd => ob_plain rfl (gives_move _ rfl ⟨hd.1, Below.refl _ _⟩)
    · exact fun aa ww hb he hd => ob_on 110 rfl (by kernel_rfl) hd.1 (load_gr rfl rfl he.2.1 (GB.new HG.out hb))
    · exact fun aa ww hb he hd => ob_on 110 rfl (by kernel_rfl) hd.1 (gives_move _ rfl ⟨he.2.2.1, Below.refl _ _⟩)
    · exact fun aa ww hb he hd => ob_on 110 rfl (by kernel_rfl) hd.1 (conv_i8 hv rfl hd.2.1)
    · exact fun aa ww hb he hd => ob_on 110 rfl (by kernel_rfl) hd.1 (gives_call2 _ _ _ _ rfl (by kernel_rfl) (by rw [show aa.eval (.tmp 111) = .agg #[.int .i64 ((n : Int)), .slice A len c] from hd.2.1, show aa.eval (.tmp 113) = .int .i64 v from hd.2.2.1]; exact rv_one (NB.out _ (HR.out.new (bthen HB.out hb HB.out.size)))))
    · exact fun aa ww hb he hd => ob_on 110 rfl (by kernel_rfl) hd.1 (gives_move _ rfl ⟨he.2.2.2.1, Below.refl _ _⟩)
    · exact fun aa ww hb he hd => ob_on 110 rfl (by kernel_rfl) hd.1 (gives_eq_int (((0 : Nat) : Int)) (((0 : Nat) : Int)) .u32 _ _ _ _ rfl hd.2.1 hd.2.2.1 ⟨congrArg Value.bool (by simp), Below.refl _ _⟩)
    · exact fun aa ww hb he hd => ob_plain rfl (gives_pick true _ _ _ rfl hd.1 ⟨hd.2.1, Below.refl _ _⟩)
    · exact fun aa ww hb he hd => ob_plain rfl (gives_move _ rfl ⟨hd.1, Below.refl _ _⟩)
    · exact fun aa ww hb he hd => ob_on 118 rfl (by kernel_rfl) hd.1 (fld_0 rfl he.2.2.2.2.1)
    · exact fun aa ww hb he hd => ob_on 118 rfl (by kernel_rfl) hd.1 (load_n rfl hd.2.1 (GB.c0 (GB.new HX.out hb)))
    · exact fun aa ww hb he hd => ob_on 118 rfl (by kernel_rfl) hd.1 (fldr_0 rfl he.2.2.2.2.2.1)
    · exact fun aa ww hb he hd => ob_on 118 rfl (by kernel_rfl) hd.1 (load_n rfl hd.2.1 (GB.c0 (GB.new HY.out hb)))
    · exact fun aa ww hb he hd => ob_on 118 rfl (by kernel_rfl) hd.1 (gives_eq_int ((n : Int)) ((n : Int)) .i64 _ _ _ _ rfl hd.2.1 hd.2.2.1 ⟨congrArg Value.bool (by simp), Below.refl _ _⟩)
    · exact fun aa ww hb he hd => ob_plain rfl (gives_pick true _ _ _ rfl hd.1 ⟨hd.2.1, Below.refl _ _⟩)
    · exact fun aa ww hb he hd => ob_plain rfl (gives_move _ rfl ⟨hd.1, Below.refl _ _⟩)
    · exact fun aa ww hb he hd => ob_on 125 rfl (by kernel_rfl) hd.1 (fld_1 rfl he.2.2.2.2.1)
    · exact fun aa ww hb he hd => ob_on 125 rfl (by kernel_rfl) hd.1 (load_es rfl hd.2.1 (GB.c1 (GB.new HX.out hb)))
    · exact fun aa ww hb he hd => ob_on 125 rfl (by kernel_rfl) hd.1 (fldr_1 rfl he.2.2.2.2.2.1)
    · exact fun aa ww hb he hd => ob_on 125 rfl (by kernel_rfl) hd.1 (load_es rfl hd.2.1 (GB.c1 (GB.new HY.out hb)))
    · exact fun aa ww hb he hd => ob_on 125 rfl (by kernel_rfl) hd.1 (gives_call2 _ _ _ _ rfl (by kernel_rfl) (by rw [show aa.eval (.tmp 127) = s0 from hd.2.1, show aa.eval (.tmp 129) = s1 from hd.2.2.1]; exact id (equal_sv (SX.out.new hb) (SY.out.new hb) (Nat.le_trans (indL_length es s) (by have := HLE.out; omega)) (indL_lt HLT.out))))
    · exact fun aa ww hb he hd => ob_plain rfl (gives_pick true _ _ _ rfl hd.1 ⟨hd.2.1, Below.refl _ _⟩)
    · exact fun aa ww hb he hd => ob_plain rfl (gives_move _ rfl ⟨hd.1, Below.refl _ _⟩)
    · exact fun aa ww hb he hd => ob_on 132 rfl (by kernel_rfl) hd.1 (gives_move _ rfl ⟨he.2.2.2.2.2.2.1, Below.refl _ _⟩)
    · exact fun aa ww hb he hd => ob_on 132 rfl (by kernel_rfl) hd.1 (gives_move _ rfl ⟨he.2.2.2.2.2.2.2.1, Below.refl _ _⟩)
    · exact fun aa ww hb he hd => ob_on 132 rfl (by kernel_rfl) hd.1 (gives_ge_int fa 0 .i64 _ _ _ _ rfl hd.2.1 rfl ⟨rfl, Below.refl _ _⟩)
    · exact fun aa ww hb he hd => ob_on 132 rfl (by kernel_rfl) hd.1 (gives_eq_bool an (decide (fa ≥ 0)) _ _ _ _ rfl Try.underlying4 hd.2.1 hd.2.2.1 ⟨congrArg Value.bool (by rw [← FA.out]; simp), Below.refl _ _⟩)
    · exact fun aa ww hb he hd => ob_plain rfl (gives_pick true _ _ _ rfl hd.1 ⟨hd.2.1, Below.refl _ _⟩)
    · exact fun aa ww hb he hd => ob_plain rfl (gives_move _ rfl ⟨hd.1, Below.refl _ _⟩)
    · exact fun aa ww hb he hd => ob_on 138 rfl (by kernel_rfl) hd.1 (gives_move _ rfl ⟨he.2.2.2.2.2.2.2.2.1, Below.refl _ _⟩)
    · exact fun aa ww hb he hd => ob_on 138 rfl (by kernel_rfl) hd.1 (gives_move _ rfl ⟨he.2.2.2.2.2.2.2.1, Below.refl _ _⟩)
    · exact fun aa ww hb he hd => ob_on 138 rfl (by kernel_rfl) hd.1 (max_c rfl hd.2.1)
    · exact fun aa ww hb he hd => ob_on 138 rfl (by kernel_rfl) hd.1 (gives_eq_int (max fa 0) (max fa 0) .i64 _ _ _ _ rfl hd.2.1 hd.2.2.1 ⟨congrArg Value.bool (by simp), Below.refl _ _⟩)
    · exact fun aa ww hb he hd => ob_plain rfl (gives_pick true _ _ _ rfl hd.1 ⟨hd.2.1, Below.refl _ _⟩)
    · exact fun aa ww hb he hd => ob_plain rfl (gives_move _ rfl ⟨hd.1, Below.refl _ _⟩)
    · exact fun aa ww hb he hd => ob_on 144 rfl (by kernel_rfl) hd.1 (load_gr rfl rfl he.2.1 (GB.new HG.out hb))
    · exact fun aa ww hb he hd => ob_on 144 rfl (by kernel_rfl) hd.1 (gives_call1 _ _ _ rfl (by kernel_rfl) (by rw [show aa.eval (.tmp 145) = .agg #[.int .i64 ((n : Int)), .slice A len c] from hd.2.1]; exact id (comps_sv (HR.out.new (bthen HB.out hb HB.out.size)) HL.out HCC.out)))
    · exact fun aa ww hb he hd => ob_on 144 rfl (by kernel_rfl) hd.1 (load_gr rfl rfl he.2.1 (GB.new HG.out hb))
    · exact fun aa ww hb he hd => ob_on 144 rfl (by kernel_rfl) hd.1 (gives_call1 _ _ _ rfl (by kernel_rfl) (by rw [show aa.eval (.tmp 147) = .agg #[.int .i64 ((n : Int)), .slice A len c] from hd.2.1]; exact rv_one (of_any n A len c _)))
    · exact fun aa ww hb he hd => ob_on 144 rfl (by kernel_rfl) hd.1 (gives_call1 _ _ _ rfl (by kernel_rfl) (by rw [show aa.eval (.tmp 148) = .agg #[.int .i64 ((n : Int)), .slice A len c] from hd.2.1]; exact id (rcomps_sv (HR.out.new (bthen HB.out hb HB.out.size)) HL.out HCC.out)))
    · exact fun aa ww hb he hd => ob_on 144 rfl (by kernel_rfl) hd.1 (gives_call2 _ _ _ _ rfl (by kernel_rfl) (equal_sv hd.2.1 hd.2.2.1 (Nat.le_trans (rcm_len es n n) (by have := HN.out; omega)) (rcm_lt HN.out HES.out)))
    · exact fun aa ww hb he hd => ob_plain rfl (gives_pick true _ _ _ rfl hd.1 ⟨hd.2.1, Below.refl _ _⟩)
  intro vs w10 hb hR _
  have e151 : vs 46 = .bool true := hR 46 (by decide)
  clear hR
  simp only [putsL, Nat.zero_add, Nat.reduceAdd, List.take_succ_cons, List.take_zero, Act.put, List.setIfInBounds_toArray, List.set_cons_zero, List.set_cons_succ]
  rw [e151]
  clear e151
  show wpAny _ _ _ _ 1 _ _ _
  refine wpAny_next (i := 47) (by kernel_rfl) rfl rfl (wp_assign 6 (.tmp 151) rfl rfl (.bool true) rfl ?_)
  simp only [Act.put, List.setIfInBounds_toArray, List.set_cons_zero, List.set_cons_succ]
  refine wpAny_end (by kernel_rfl) (calm_normal ?_) _
  replace HB := Lib.hid (bthen HB.out hb HB.out.size)
  go_wp2_with fail
  go_ret
  exact ⟨rfl, HB.out⟩
set_option maxRecDepth 100000 in
set_option maxHeartbeats 8000000 in
theorem basics_mid (n : Nat) (A : Option Addr) (es : List Nat) (len c : Nat) (v : Int) (s : Nat) (w : World) (hr : Es w w.heap.size A len es) (hl : len ≤ 70) (hv : -128 ≤ v ∧ v ≤ 127) (hs : s < 4294967296) (hcc : checkCode n es = 0) (hin : 0 ≤ v ∧ v < n) :
    Calls Try.prog 8 #[.agg #[.int .i64 n, .slice A len c], .int .i8 v, .int .u32 s] w fun e w' => e = .returned (.bool true) ∧ Below w.heap.size w w' := by
  obtain ⟨_, hn32, _, hes⟩ := checkCode_zero hcc
  have HES := Lib.hid (show ∀ e ∈ es, e < 2 ^ n by simpa using hes); clear hes
  have HN := Lib.hid (show n ≤ 32 by omega); clear hn32
  have HR := Lib.hid hr; clear hr
  have HL := Lib.hid hl
  have HS := Lib.hid hs
  have HCC := Lib.hid hcc; clear hcc
  have HLE := Lib.hid (show es.length ≤ 70 by have := HR.out.len; omega)
  have HLT := Lib.hid HR.out.2.2
  have HG := Lib.hid (GB.made w 24 (.int .i64 n) (.slice A len c))
  have HW := Lib.hid (al w (.cells #[.int .i64 n, .slice A len c] 24))
  have ew : IntKind.i64.wrap v = v := IntWalk.i64_in _ (by omega)
  obtain ⟨k, rfl⟩ := Int.eq_ofNat_of_zero_le hin.1
  have hkn : k < n := by omega
  have t1 : decide ((k : Int) ≥ 0) = true := by simp
  have t2 : decide ((k : Int) < (n : Int)) = true := by simp; omega
  obtain ⟨nr, hnr⟩ : ∃ x : Nat, x = adj es k := ⟨_, rfl⟩
  have HNR := Lib.hid (show rnb es k n = nr by rw [hnr]; exact rnb_adj HN.out HES.out hkn)
  have NB := Lib.hid (show ∀ W, Es W W.heap.size A len es → Calls Try.prog 26 #[.agg #[.int .i64 n, .slice A len c], .int .i64 k] W fun e w' => e = .returned (.int .u32 (nr : Int)) ∧ Below W.heap.size W w' from fun W hW => by rw [hnr]; exact neighbors_ok n k A es len c W hW HCC.out hkn)
  clear hnr
  go_enter Try.func8, Try.ntmps8
  go_wp2_with fail
  refine (check_any n A es len c _ (HR.out.new HW.out)).mono ?_
  rintro e w1 ⟨rfl, hb⟩
  rw [HCC.out]
  replace HG := Lib.hid (HG.out.new hb)
  have HB := Lib.hid (bthen HW.out hb (by simp)); clear hb HW
  have g0 := HG.out.c0; have g1 := HG.out.c1; have gl := HG.out.lt
  go_wp2_with fail
  refine (of_any n A len c _).mono ?_
  rintro e w2 ⟨rfl, hb⟩
  replace HG := Lib.hid (HG.out.new hb)
  replace HB := Lib.hid (bthen HB.out hb HB.out.size); clear hb g0 g1 gl
  have g0 := HG.out.c0; have g1 := HG.out.c1; have gl := HG.out.lt
  go_wp2_with fail
  refine (rcheck_any n A es len c _ (HR.out.new HB.out)).mono ?_
  rintro e w3 ⟨rfl, hb⟩
  rw [HCC.out]
  replace HG := Lib.hid (HG.out.new hb)
  replace HB := Lib.hid (bthen HB.out hb HB.out.size); clear hb g0 g1 gl
  have g0 := HG.out.c0; have g1 := HG.out.c1; have gl := HG.out.lt
  go_wp2_with fail
  refine (of_any n A len c _).mono ?_
  rintro e w4 ⟨rfl, hb⟩
  replace HG := Lib.hid (HG.out.new hb)
  replace HB := Lib.hid (bthen HB.out hb HB.out.size); clear hb g0 g1 gl
  have g0 := HG.out.c0; have g1 := HG.out.c1; have gl := HG.out.lt
  go_wp2_with fail
  refine (rneighbors_any n k HN.out A es len c _ (HR.out.new HB.out)).mono ?_
  rintro e wn ⟨rfl, hb⟩
  rw [HNR.out]
  replace HG := Lib.hid (HG.out.new hb)
  replace HB := Lib.hid (bthen HB.out hb HB.out.size); clear hb g0 g1 gl
  have g0 := HG.out.c0; have g1 := HG.out.c1; have gl := HG.out.lt
  go_upto_region 11 with (fail)
  refine wp_region_join (kss := [[], [], [(0, 88), (1, 89)], [], [(3, 91)], [], [(4, 92), (5, 93)], [], []]) [(3, .pointer (some ⟨w.heap.size, 0, none⟩)), (2, .int .u32 ((s : Int)))] [fun zz _ => zz = .agg #[.int .i64 ((n : Int)), .slice A len c], fun zz _ => zz = .int .u32 ((s : Int)), Gv n (indL es s), fun zz _ => zz = .agg #[.int .i64 ((n : Int)), .slice A len c], fun zz _ => zz = .agg #[.int .i64 ((n : Int)), .slice A len c], fun zz _ => zz = .int .u32 ((s : Int)), Gv n (indL es s), Zg 24 wn.heap.size, Zg 26 wn.heap.size] 9 [] (by kernel_rfl) (by kernel_rfl) ⟨rfl, rfl, trivial⟩ [false, false, false, false, false, false, false, true, true] ?_ ?_ ?_ ?_
  · exact fun i hi => absurd hi (by simp)
  · exact ⟨fun _ _ _ h _ => h, fun _ _ _ h _ => h, fun _ _ _ h hb => Gv.new h hb, fun _ _ _ h _ => h, fun _ _ _ h _ => h, fun _ _ _ h _ => h, fun _ _ _ h hb => Gv.new h hb, fun _ _ _ h hb => Zg.new h hb, fun _ _ _ h hb => Zg.new h hb, trivial⟩
  · refine ⟨?_, ?_, ?_, ?_, ?_, ?_, ?_, ?_, ?_, trivial⟩
    · exact fun aa ww hb he hd => ob_plain rfl (load_gr rfl rfl he.1 (GB.new HG.out hb))
    · exact fun aa ww hb he hd => ob_plain rfl (gives_move _ rfl ⟨he.2.1, Below.refl _ _⟩)
    · exact fun aa ww hb he hd => ob_plain rfl (gives_call2 _ _ _ _ rfl (by kernel_rfl) (by rw [show aa.eval (.tmp 88) = .agg #[.int .i64 ((n : Int)), .slice A len c] from hd.1, show aa.eval (.tmp 89) = .int .u32 ((s : Int)) from hd.2.1]; exact id (induced_v (HR.out.new (bthen HB.out hb HB.out.size)) HCC.out HS.out)))
    · exact fun aa ww hb he hd => ob_plain rfl (load_gr rfl rfl he.1 (GB.new HG.out hb))
    · exact fun aa ww hb he hd => ob_plain rfl (gives_call1 _ _ _ rfl (by kernel_rfl) (by rw [show aa.eval (.tmp 91) = .agg #[.int .i64 ((n : Int)), .slice A len c] from hd.1]; exact rv_one (of_any n A len c _)))
    · exact fun aa ww hb he hd => ob_plain rfl (gives_move _ rfl ⟨he.2.1, Below.refl _ _⟩)
    · exact fun aa ww hb he hd => ob_plain rfl (gives_call2 _ _ _ _ rfl (by kernel_rfl) (by rw [show aa.eval (.tmp 92) = .agg #[.int .i64 ((n : Int)), .slice A len c] from hd.1, show aa.eval (.tmp 93) = .int .u32 ((s : Int)) from hd.2.1]; exact id (rinduced_v (HR.out.new (bthen HB.out hb HB.out.size)) HL.out HS.out)))
    · exact fun aa ww hb he hd => ⟨by simp [Region.wanted], alloc_hg rfl hb⟩
    · exact fun aa ww hb he hd => ⟨by simp [Region.wanted], alloc_rg rfl hb⟩
  intro vs w5 hb hR hN
  have r0 : Gv n (indL es s) (vs 2) w5 := hR 2 (by omega)
  have r1 : Gv n (indL es s) (vs 6) w5 := hR 6 (by omega)
  obtain ⟨gx, k0, b0, z0⟩ : Zg 24 wn.heap.size (vs 7) w5 := hR 7 (by omega)
  obtain ⟨gy, k1, b1, z1⟩ : Zg 26 wn.heap.size (vs 8) w5 := hR 8 (by omega)
  clear hN hR
  simp only [putsL, Nat.zero_add, Nat.reduceAdd, List.take_succ_cons, List.take_zero, Act.put, List.setIfInBounds_toArray, List.set_cons_zero, List.set_cons_succ]
  rw [k0, k1]
  clear k0 k1
  generalize vs 2 = u0 at *
  generalize vs 6 = u1 at *
  show wpAny _ _ _ _ 2 _ _ _
  have nxy : gx ≠ gy := Blk.ne_ z0 z1 (by decide)
  have hgx : GB w5 w.heap.size 24 (.int .i64 n) (.slice A len c) := HG.out.new hb
  have hgxl := HG.out.lt
  refine wpAny_next (i := 9) (by kernel_rfl) rfl rfl (store_g (graph_size (.int .i64 0) (.slice none 0 0)) rfl rfl rfl rfl z0 (by decide) r0 ?_)
  intro s0 y0 x0
  replace r1 := r1.far z0 (by decide) (.int .i64 n) s0
  replace z1 := GB.far (GB.far z1 (p := ⟨gx, 0, none⟩) (Ne.symm nxy) (.int .i64 n)) (p := ⟨gx, 1, none⟩) (Ne.symm nxy) s0
  have hb0 := two_below hb (g := gx) b0 (.int .i64 n) s0
  refine wpAny_next (i := 10) (by kernel_rfl) rfl rfl (store_g (rgraph_size (.int .i64 0) (.slice none 0 0)) rfl rfl rfl rfl z1 (by decide) r1 ?_)
  intro s1 y1 x1
  have hb1 := two_below hb0 (g := gy) b1 (.int .i64 n) s1
  replace y0 := y0.far z1 (by decide) (.int .i64 n) s1
  replace x0 := GB.far (GB.far x0 (p := ⟨gy, 0, none⟩) nxy (.int .i64 n)) (p := ⟨gy, 1, none⟩) nxy s1
  refine wpAny_end (by kernel_rfl) (calm_normal ?_) _
  generalize ((((w5.setCell ⟨gx, 0, none⟩ (.int .i64 n)).setCell ⟨gx, 1, none⟩ s0).setCell ⟨gy, 0, none⟩ (.int .i64 n)).setCell ⟨gy, 1, none⟩ s1) = w6 at *
  replace HG := Lib.hid (HG.out.new hb1)
  replace HB := Lib.hid (bthen HB.out hb1 HB.out.size)
  have HX := Lib.hid x0; have HY := Lib.hid x1; have SX := Lib.hid y0; have SY := Lib.hid y1
  clear hb hb0 hb1 r0 r1 z0 z1 x0 x1 y0 y1 hgx hgxl b0 b1 g0 g1 gl
  have g0 := HG.out.c0; have g1 := HG.out.c1; have gl := HG.out.lt
  go_wp2_with fail
  refine (inside_ok n s A es len c _ (HR.out.new HB.out) HCC.out hs).mono ?_
  rintro e w7 ⟨rfl, hb⟩
  obtain ⟨fa, hfa⟩ : ∃ x, x = firstAt (holdsB s) es := ⟨_, rfl⟩
  have FA := Lib.hid (firstAt_ge (holdsB s) es)
  rw [← hfa] at FA ⊢
  obtain ⟨an, han⟩ : ∃ x, x = es.any (holdsB s) := ⟨_, rfl⟩
  rw [← han] at FA ⊢
  clear han
  replace HG := Lib.hid (HG.out.new hb); replace HX := Lib.hid (HX.out.new hb); replace HY := Lib.hid (HY.out.new hb); replace SX := Lib.hid (SX.out.new hb); replace SY := Lib.hid (SY.out.new hb)
  replace HB := Lib.hid (bthen HB.out hb HB.out.size); clear hb g0 g1 gl
  have g0 := HG.out.c0; have g1 := HG.out.c1; have gl := HG.out.lt
  go_wp2_with fail
  refine (of_any n A len c _).mono ?_
  rintro e w8 ⟨rfl, hb⟩
  replace HG := Lib.hid (HG.out.new hb); replace HX := Lib.hid (HX.out.new hb); replace HY := Lib.hid (HY.out.new hb); replace SX := Lib.hid (SX.out.new hb); replace SY := Lib.hid (SY.out.new hb)
  replace HB := Lib.hid (bthen HB.out hb HB.out.size); clear hb g0 g1 gl
  go_wp2_with fail
  refine (rinside_any n A es len c s _ (HR.out.new HB.out) hs).mono ?_
  rintro e w9 ⟨rfl, hb⟩
  rw [← hfa]
  clear hfa
  replace HG := Lib.hid (HG.out.new hb); replace HX := Lib.hid (HX.out.new hb); replace HY := Lib.hid (HY.out.new hb); replace SX := Lib.hid (SX.out.new hb); replace SY := Lib.hid (SY.out.new hb)
  replace HB := Lib.hid (bthen HB.out hb HB.out.size); clear hb
  go_upto_region 14 with (fail)
  refine wp_region_join (kss := [[], [(0, 105)], [(1, 106)], [(1, 106), (2, 107)], [(1, 106), (3, 108)], [(4, 109)], [(5, 110)], [(5, 110)], [(5, 110), (7, 112)], [(5, 110), (6, 111), (8, 113)], [(5, 110)], [(5, 110), (9, 114), (10, 115)], [(5, 110), (11, 116)], [(12, 117)], [(13, 118)], [(13, 118), (14, 119)], [(13, 118)], [(13, 118), (16, 121)], [(13, 118), (15, 120), (17, 122)], [(13, 118), (18, 123)], [(19, 124)], [(20, 125)], [(20, 125), (21, 126)], [(20, 125)], [(20, 125), (23, 128)], [(20, 125), (22, 127), (24, 129)], [(20, 125), (25, 130)], [(26, 131)], [(27, 132)], [(27, 132)], [(27, 132), (29, 134)], [(27, 132), (28, 133), (30, 135)], [(27, 132), (31, 136)], [(32, 137)], [(33, 138)], [(33, 138)], [(33, 138), (35, 140)], [(33, 138), (34, 139), (36, 141)], [(33, 138), (37, 142)], [(38, 143)], [(39, 144)], [(39, 144), (40, 145)], [(39, 144)], [(39, 144), (42, 147)], [(39, 144), (43, 148)], [(39, 144), (41, 146), (44, 149)], [(39, 144), (45, 150)]]) [(7, .int .i64 0), (3, .pointer (some ⟨w.heap.size, 0, none⟩)), (1, .int .i8 (k : Int)), (11, .int .u32 ((nr : Int))), (12, .pointer (some ⟨gx, 0, none⟩)), (13, .pointer (some ⟨gy, 0, none⟩)), (15, .bool an), (16, .int .i64 fa), (14, .int .i64 (max fa 0))] [fun zz _ => zz = .bool true, fun zz _ => zz = .bool true, fun zz _ => zz = .int .i64 0, fun zz _ => zz = .bool true, fun zz _ => zz = .bool true, fun zz _ => zz = .bool true, fun zz _ => zz = .agg #[.int .i64 ((n : Int)), .slice A len c], fun zz _ => zz = .int .i8 (k : Int), fun zz _ => zz = .int .i64 (k : Int), fun zz _ => zz = .int .u32 ((nr : Int)), fun zz _ => zz = .int .u32 ((nr : Int)), fun zz _ => zz = .bool true, fun zz _ => zz = .bool true, fun zz _ => zz = .bool true, fun zz _ => zz = .pointer (some ⟨gx, 0, none⟩), fun zz _ => zz = .int .i64 ((n : Int)), fun zz _ => zz = .pointer (some ⟨gy, 0, none⟩), fun zz _ => zz = .int .i64 ((n : Int)), fun zz _ => zz = .bool true, fun zz _ => zz = .bool true, fun zz _ => zz = .bool true, fun zz _ => zz = .pointer (some ⟨gx, 1, none⟩), fun zz _ => zz = s0, fun zz _ => zz = .pointer (some ⟨gy, 1, none⟩), fun zz _ => zz = s1, fun zz _ => zz = .bool true, fun zz _ => zz = .bool true, fun zz _ => zz = .bool true, fun zz _ => zz = .bool an, fun zz _ => zz = .int .i64 fa, fun zz _ => zz = .bool (decide (fa ≥ 0)), fun zz _ => zz = .bool true, fun zz _ => zz = .bool true, fun zz _ => zz = .bool true, fun zz _ => zz = .int .i64 (max fa 0), fun zz _ => zz = .int .i64 fa, fun zz _ => zz = .int .i64 (max fa 0), fun zz _ => zz = .bool true, fun zz _ => zz = .bool true, fun zz _ => zz = .bool true, fun zz _ => zz = .agg #[.int .i64 ((n : Int)), .slice A len c], Sv (rcm es n n).1, fun zz _ => zz = .agg #[.int .i64 ((n : Int)), .slice A len c], fun zz _ => zz = .agg #[.int .i64 ((n : Int)), .slice A len c], Sv (rcm es n n).1, fun zz _ => zz = .bool true, fun zz _ => zz = .bool true] 47 [] (by kernel_rfl) (by kernel_rfl) ⟨rfl, rfl, rfl, rfl, rfl, rfl, rfl, rfl, rfl, trivial⟩ [false, false, false, false, false, false, false, false, false, false, false, false, false, false, false, false, false, false, false, false, false, false, false, false, false, false, false, false, false, false, false, false, false, false, false, false, false, false, false, false, false, false, false, false, false, false, false] ?_ ?_ ?_ ?_
  · exact fun i hi => absurd hi (by simp)
  · exact ⟨fun _ _ _ h _ => h, fun _ _ _ h _ => h, fun _ _ _ h _ => h, fun _ _ _ h _ => h, fun _ _ _ h _ => h, fun _ _ _ h _ => h, fun _ _ _ h _ => h, fun _ _ _ h _ => h, fun _ _ _ h _ => h, fun _ _ _ h _ => h, fun _ _ _ h _ => h, fun _ _ _ h _ => h, fun _ _ _ h _ => h, fun _ _ _ h _ => h, fun _ _ _ h _ => h, fun _ _ _ h _ => h, fun _ _ _ h _ => h, fun _ _ _ h _ => h, fun _ _ _ h _ => h, fun _ _ _ h _ => h, fun _ _ _ h _ => h, fun _ _ _ h _ => h, fun _ _ _ h _ => h, fun _ _ _ h _ => h, fun _ _ _ h _ => h, fun _ _ _ h _ => h, fun _ _ _ h _ => h, fun _ _ _ h _ => h, fun _ _ _ h _ => h, fun _ _ _ h _ => h, fun _ _ _ h _ => h, fun _ _ _ h _ => h, fun _ _ _ h _ => h, fun _ _ _ h _ => h, fun _ _ _ h _ => h, fun _ _ _ h _ => h, fun _ _ _ h _ => h, fun _ _ _ h _ => h, fun _ _ _ h _ => h, fun _ _ _ h _ => h, fun _ _ _ h _ => h, fun _ _ _ h hb => Sv.new h hb, fun _ _ _ h _ => h, fun _ _ _ h _ => h, fun _ _ _ h hb => Sv.new h hb, fun _ _ _ h _ => h, fun _ _ _ h _ => h, trivial⟩
  · refine ⟨?_, ?_, ?_, ?_, ?_, ?_, ?_, ?_, ?_, ?_, ?_, ?_, ?_, ?_, ?_, ?_, ?_, ?_, ?_, ?_, ?_, ?_, ?_, ?_, ?_, ?_, ?_, ?_, ?_, ?_, ?_, ?_, ?_, ?_, ?_, ?_, ?_, ?_, ?_, ?_, ?_, ?_, ?_, ?_, ?_, ?_, ?_, trivial⟩
    · exact fun aa ww hb he hd => ob_plain rfl (gives_call0 _ _ rfl (by kernel_rfl) (rv_one (awake26_any _)))
    · exact fun aa ww hb he hd => ob_plain rfl (gives_move _ rfl ⟨hd.1, Below.refl _ _⟩)
    · exact fun aa ww hb he hd => ob_on 106 rfl (by kernel_rfl) hd.1 (gives_move _ rfl ⟨he.1, Below.refl _ _⟩)
    · exact fun aa ww hb he hd => ob_on 106 rfl (by kernel_rfl) hd.1 (gives_eq_int 0 0 .i64 _ _ _ _ rfl hd.2.1 rfl ⟨congrArg Value.bool (by decide), Below.refl _ _⟩)
    · exact fun aa ww hb he hd => ob_plain rfl (gives_pick true _ _ _ rfl hd.1 ⟨hd.2.1, Below.refl _ _⟩)
    · exact fun aa ww hb he hd => ob_plain rfl (gives_move _ rfl ⟨hd.1, Below.refl _ _⟩)
    · exact fun aa ww hb he hd => ob_on 110 rfl (by kernel_rfl) hd.1 (load_gr rfl rfl he.2.1 (GB.new HG.out hb))
    · exact fun aa ww hb he hd => ob_on 110 rfl (by kernel_rfl) hd.1 (gives_move _ rfl ⟨he.2.2.1, Below.refl _ _⟩)
    · exact fun aa ww hb he hd => ob_on 110 rfl (by kernel_rfl) hd.1 (conv_i8 hv rfl hd.2.1)
    · exact fun aa ww hb he hd => ob_on 110 rfl (by kernel_rfl) hd.1 (gives_call2 _ _ _ _ rfl (by kernel_rfl) (by rw [show aa.eval (.tmp 111) = .agg #[.int .i64 ((n : Int)), .slice A len c] from hd.2.1, show aa.eval (.tmp 113) = .int .i64 (k : Int) from hd.2.2.1]; exact rv_one (NB.out _ (HR.out.new (bthen HB.out hb HB.out.size)))))
    · exact fun aa ww hb he hd => ob_on 110 rfl (by kernel_rfl) hd.1 (gives_move _ rfl ⟨he.2.2.2.1, Below.refl _ _⟩)
    · exact fun aa ww hb he hd => ob_on 110 rfl (by kernel_rfl) hd.1 (gives_eq_int ((nr : Int)) ((nr : Int)) .u32 _ _ _ _ rfl hd.2.1 hd.2.2.1 ⟨congrArg Value.bool (by simp), Below.refl _ _⟩)
    · exact fun aa ww hb he hd => ob_plain rfl (gives_pick true _ _ _ rfl hd.1 ⟨hd.2.1, Below.refl _ _⟩)
    · exact fun aa ww hb he hd => ob_plain rfl (gives_move _ rfl ⟨hd.1, Below.refl _ _⟩)
    · exact fun aa ww hb he hd => ob_on 118 rfl (by kernel_rfl) hd.1 (fld_0 rfl he.2.2.2.2.1)
    · exact fun aa ww hb he hd => ob_on 118 rfl (by kernel_rfl) hd.1 (load_n rfl hd.2.1 (GB.c0 (GB.new HX.out hb)))
    · exact fun aa ww hb he hd => ob_on 118 rfl (by kernel_rfl) hd.1 (fldr_0 rfl he.2.2.2.2.2.1)
    · exact fun aa ww hb he hd => ob_on 118 rfl (by kernel_rfl) hd.1 (load_n rfl hd.2.1 (GB.c0 (GB.new HY.out hb)))
    · exact fun aa ww hb he hd => ob_on 118 rfl (by kernel_rfl) hd.1 (gives_eq_int ((n : Int)) ((n : Int)) .i64 _ _ _ _ rfl hd.2.1 hd.2.2.1 ⟨congrArg Value.bool (by simp), Below.refl _ _⟩)
    · exact fun aa ww hb he hd => ob_plain rfl (gives_pick true _ _ _ rfl hd.1 ⟨hd.2.1, Below.refl _ _⟩)
    · exact fun aa ww hb he hd => ob_plain rfl (gives_move _ rfl ⟨hd.1, Below.refl _ _⟩)
    · exact fun aa ww hb he hd => ob_on 125 rfl (by kernel_rfl) hd.1 (fld_1 rfl he.2.2.2.2.1)
    · exact fun aa ww hb he hd => ob_on 125 rfl (by kernel_rfl) hd.1 (load_es rfl hd.2.1 (GB.c1 (GB.new HX.out hb)))
    · exact fun aa ww hb he hd => ob_on 125 rfl (by kernel_rfl) hd.1 (fldr_1 rfl he.2.2.2.2.2.1)
    · exact fun aa ww hb he hd => ob_on 125 rfl (by kernel_rfl) hd.1 (load_es rfl hd.2.1 (GB.c1 (GB.new HY.out hb)))
    · exact fun aa ww hb he hd => ob_on 125 rfl (by kernel_rfl) hd.1 (gives_call2 _ _ _ _ rfl (by kernel_rfl) (by rw [show aa.eval (.tmp 127) = s0 from hd.2.1, show aa.eval (.tmp 129) = s1 from hd.2.2.1]; exact id (equal_sv (SX.out.new hb) (SY.out.new hb) (Nat.le_trans (indL_length es s) (by have := HLE.out; omega)) (indL_lt HLT.out))))
    · exact fun aa ww hb he hd => ob_plain rfl (gives_pick true _ _ _ rfl hd.1 ⟨hd.2.1, Below.refl _ _⟩)
    · exact fun aa ww hb he hd => ob_plain rfl (gives_move _ rfl ⟨hd.1, Below.refl _ _⟩)
    · exact fun aa ww hb he hd => ob_on 132 rfl (by kernel_rfl) hd.1 (gives_move _ rfl ⟨he.2.2.2.2.2.2.1, Below.refl _ _⟩)
    · exact fun aa ww hb he hd => ob_on 132 rfl (by kernel_rfl) hd.1 (gives_move _ rfl ⟨he.2.2.2.2.2.2.2.1, Below.refl _ _⟩)
    · exact fun aa ww hb he hd => ob_on 132 rfl (by kernel_rfl) hd.1 (gives_ge_int fa 0 .i64 _ _ _ _ rfl hd.2.1 rfl ⟨rfl, Below.refl _ _⟩)
    · exact fun aa ww hb he hd => ob_on 132 rfl (by kernel_rfl) hd.1 (gives_eq_bool an (decide (fa ≥ 0)) _ _ _ _ rfl Try.underlying4 hd.2.1 hd.2.2.1 ⟨congrArg Value.bool (by rw [← FA.out]; simp), Below.refl _ _⟩)
    · exact fun aa ww hb he hd => ob_plain rfl (gives_pick true _ _ _ rfl hd.1 ⟨hd.2.1, Below.refl _ _⟩)
    · exact fun aa ww hb he hd => ob_plain rfl (gives_move _ rfl ⟨hd.1, Below.refl _ _⟩)
    · exact fun aa ww hb he hd => ob_on 138 rfl (by kernel_rfl) hd.1 (gives_move _ rfl ⟨he.2.2.2.2.2.2.2.2.1, Below.refl _ _⟩)
    · exact fun aa ww hb he hd => ob_on 138 rfl (by kernel_rfl) hd.1 (gives_move _ rfl ⟨he.2.2.2.2.2.2.2.1, Below.refl _ _⟩)
    · exact fun aa ww hb he hd => ob_on 138 rfl (by kernel_rfl) hd.1 (max_c rfl hd.2.1)
    · exact fun aa ww hb he hd => ob_on 138 rfl (by kernel_rfl) hd.1 (gives_eq_int (max fa 0) (max fa 0) .i64 _ _ _ _ rfl hd.2.1 hd.2.2.1 ⟨congrArg Value.bool (by simp), Below.refl _ _⟩)
    · exact fun aa ww hb he hd => ob_plain rfl (gives_pick true _ _ _ rfl hd.1 ⟨hd.2.1, Below.refl _ _⟩)
    · exact fun aa ww hb he hd => ob_plain rfl (gives_move _ rfl ⟨hd.1, Below.refl _ _⟩)
    · exact fun aa ww hb he hd => ob_on 144 rfl (by kernel_rfl) hd.1 (load_gr rfl rfl he.2.1 (GB.new HG.out hb))
    · exact fun aa ww hb he hd => ob_on 144 rfl (by kernel_rfl) hd.1 (gives_call1 _ _ _ rfl (by kernel_rfl) (by rw [show aa.eval (.tmp 145) = .agg #[.int .i64 ((n : Int)), .slice A len c] from hd.2.1]; exact id (comps_sv (HR.out.new (bthen HB.out hb HB.out.size)) HL.out HCC.out)))
    · exact fun aa ww hb he hd => ob_on 144 rfl (by kernel_rfl) hd.1 (load_gr rfl rfl he.2.1 (GB.new HG.out hb))
    · exact fun aa ww hb he hd => ob_on 144 rfl (by kernel_rfl) hd.1 (gives_call1 _ _ _ rfl (by kernel_rfl) (by rw [show aa.eval (.tmp 147) = .agg #[.int .i64 ((n : Int)), .slice A len c] from hd.2.1]; exact rv_one (of_any n A len c _)))
    · exact fun aa ww hb he hd => ob_on 144 rfl (by kernel_rfl) hd.1 (gives_call1 _ _ _ rfl (by kernel_rfl) (by rw [show aa.eval (.tmp 148) = .agg #[.int .i64 ((n : Int)), .slice A len c] from hd.2.1]; exact id (rcomps_sv (HR.out.new (bthen HB.out hb HB.out.size)) HL.out HCC.out)))
    · exact fun aa ww hb he hd => ob_on 144 rfl (by kernel_rfl) hd.1 (gives_call2 _ _ _ _ rfl (by kernel_rfl) (equal_sv hd.2.1 hd.2.2.1 (Nat.le_trans (rcm_len es n n) (by have := HN.out; omega)) (rcm_lt HN.out HES.out)))
    · exact fun aa ww hb he hd => ob_plain rfl (gives_pick true _ _ _ rfl hd.1 ⟨hd.2.1, Below.refl _ _⟩)
  intro vs w10 hb hR _
  have e151 : vs 46 = .bool true := hR 46 (by decide)
  clear hR
  simp only [putsL, Nat.zero_add, Nat.reduceAdd, List.take_succ_cons, List.take_zero, Act.put, List.setIfInBounds_toArray, List.set_cons_zero, List.set_cons_succ]
  rw [e151]
  clear e151
  show wpAny _ _ _ _ 1 _ _ _
  refine wpAny_next (i := 47) (by kernel_rfl) rfl rfl (wp_assign 6 (.tmp 151) rfl rfl (.bool true) rfl ?_)
  simp only [Act.put, List.setIfInBounds_toArray, List.set_cons_zero, List.set_cons_succ]
  refine wpAny_end (by kernel_rfl) (calm_normal ?_) _
  replace HB := Lib.hid (bthen HB.out hb HB.out.size)
  go_wp2_with fail
  go_ret
  exact ⟨rfl, HB.out⟩
end Go.Proofs.Ytkiahnffepbgpaa
namespace Go.Proofs.Ytkiahnffepbgpaa
open Go.RowKit
set_option linter.unusedSimpArgs false
set_option linter.unusedVariables false

set_option maxRecDepth 100000 in
set_option maxHeartbeats 8000000 in
theorem basics_long (n : Int) (A : Option Addr) (es : List Nat) (len c : Nat) (v : Int) (s : Nat) (w : World) (hl : 70 < len) :
    Calls Try.prog 8 #[.agg #[.int .i64 n, .slice A len c], .int .i8 v, .int .u32 s] w fun e w' => e = .returned (.bool true) ∧ Below w.heap.size w w' := by
  have HW := Lib.hid (al w (.cells #[.int .i64 n, .slice A len c] 24))
  go_enter Try.func8, Try.ntmps8
  go_wp2_with fail
  refine (awake26_any _).mono ?_
  rintro e w1 ⟨rfl, hb⟩
  have HB := Lib.hid (bthen HW.out hb (by simp)); clear hb
  go_wp2_with fail
  go_ret
  exact ⟨rfl, HB.out⟩
theorem hypergraphBasics_walk (n : Int) (A : Option Addr) (es : List Nat) (len c : Nat) (v s : Int) (w : World) (hr : Es w w.heap.size A len es) (_ : -9223372036854775808 ≤ n ∧ n ≤ 9223372036854775807) (_ : len ≤ c) (hv : -128 ≤ v ∧ v ≤ 127) (hs : 0 ≤ s ∧ s ≤ 4294967295) :
    Calls Try.prog 8 #[.agg #[.int .i64 n, .slice A len c], .int .i8 v, .int .u32 s] w fun e w' => e = .returned (.bool true) ∧ Below w.heap.size w w' := by
  obtain ⟨s, rfl⟩ := Int.eq_ofNat_of_zero_le hs.1
  have hs' : s < 4294967296 := by omega
  by_cases hl : 70 < len
  · exact basics_long n A es len c v s w hl
  · by_cases hcc : checkCode n es = 0
    · obtain ⟨h0, _, _, _⟩ := checkCode_zero hcc
      obtain ⟨n, rfl⟩ := Int.eq_ofNat_of_zero_le h0
      by_cases h1 : v < 0
      · exact basics_neg n A es len c v s w hr (by omega) hv hs' hcc h1
      · by_cases h2 : v < n
        · exact basics_mid n A es len c v s w hr (by omega) hv hs' hcc ⟨by omega, h2⟩
        · exact basics_big n A es len c v s w hr (by omega) hv hs' hcc (by omega) (by omega)
    · exact basics_bad n A es len c v s w hr (by omega) hv hs' hcc
end Go.Proofs.Ytkiahnffepbgpaa
