/-
The walk of CoverLeast. Printed by gen/scv.py.
-/
import Derived.Test.YtpnklmgfdihjfaaK16
namespace Go.Proofs.Ytpnklmgfdihjfaa
open Go.RowKit
set_option linter.unusedVariables false
set_option linter.unusedSimpArgs false

theorem any_holds {es : List Nat} {len s : Nat} (hlen : len = es.length) (hs : s < 4294967296) (he : ∀ e ∈ es, e < 4294967296) : es.any (holdsB s) = true ↔ ∃ i, i < len ∧ ∀ x, s.testBit x = true → (nth es i).testBit x = true := by
  have key : ∀ e, e < 4294967296 → (andn s e = 0 ↔ ∀ x, s.testBit x = true → e.testBit x = true) := fun e he => by
    constructor
    · intro h x hx
      have h1 := testBit_andn (a := s) (b := e) (i := x) he hs
      rw [h, Nat.zero_testBit, hx] at h1
      simpa using h1
    · intro h
      refine Nat.eq_of_testBit_eq fun x => ?_
      rw [Nat.zero_testBit, testBit_andn he hs]
      cases hx : s.testBit x with
      | false => rfl
      | true => rw [h x hx]; rfl
  rw [List.any_eq_true]
  constructor
  · rintro ⟨e, hm, hh⟩
    obtain ⟨i, hi, rfl⟩ := List.getElem_of_mem hm
    refine ⟨i, by omega, ?_⟩
    rw [nth_eq hi]
    exact (key _ (he _ hm)).1 (by simpa [holdsB] using hh)
  · rintro ⟨i, hi, hh⟩
    have hi2 : i < es.length := by omega
    refine ⟨es[i], List.getElem_mem hi2, ?_⟩
    rw [nth_eq hi2] at hh
    simpa [holdsB] using (key _ (he _ (List.getElem_mem hi2))).2 hh
theorem rcq_lt9 {x y : Rat} (h : y ≤ x) : decide (rcq x y < 0) = false := by
  rw [decide_eq_false_iff_not]; unfold rcq
  rw [if_neg (Rat.not_lt.2 h)]; split <;> omega
theorem rcq_gt9 {x y : Rat} (h : x ≤ y) : decide (rcq x y > 0) = false := by
  rw [decide_eq_false_iff_not]; unfold rcq
  split
  · omega
  · rw [if_neg (Rat.not_lt.2 h)]; omega
theorem low_bits {s n x : Nat} (hn : n ≤ 32) (hs : s < 4294967296) (h : andn s (2 ^ n - 1) = 0) (hx : s.testBit x = true) : x < n := by
  have h1 := (andn_below hn hs).1 h
  refine Classical.byContradiction fun h2 => ?_
  have h3 := Nat.testBit_lt_two_pow (Nat.lt_of_lt_of_le h1 (Nat.pow_le_pow_right (by omega) (show n ≤ x by omega)))
  rw [h3] at hx; exact absurd hx (by decide)
set_option maxRecDepth 100000 in
set_option maxHeartbeats 16000000 in
theorem least_any9 (n : Int) (len ce s D a bn ca cb : Nat) (AE AX AY : Option Addr) (es : List Nat) (xs ys : List Int) (vN : Int) (w : World) (hE : Es w w.heap.size AE len es) (hs : s < 4294967296) (hD : D ≤ 255) (hX : Ks .i8 128 w w.heap.size AX a xs) (hY : Ks .i8 128 w w.heap.size AY bn ys) (hv : -128 ≤ vN ∧ vN < 128) (hab : a ≤ 1048576 ∧ bn ≤ 1048576) :
    Calls Try.prog 6 #[.agg #[.int .i64 n, .slice AE len ce], .int .u32 (s : Int), .agg #[.int .u8 (D : Int), .slice AX a ca, .slice AY bn cb, .int .i8 vN]] w fun e w' => e = .returned (.bool true) ∧ Below w.heap.size w w' := by
  have HE0 := Lib.hid hE; have HX0 := Lib.hid hX; have HY0 := Lib.hid hY; have HS32 := Lib.hid hs; have HVn := Lib.hid hv; clear hE hX hY hs hv
  go_enter Try.func6, Try.ntmps6
  go_upto_region 1 with (fail)
  have hbw := bthen (al w (.cells #[.int .i64 n, .slice AE len ce] 24)) (al _ (.cells #[.int .u8 (D : Int), .slice AX a ca, .slice AY bn cb, .int .i8 vN] 43)) (by simp)
  have HG := Lib.hid ((Blk.new w 24 #[.int .i64 n, .slice AE len ce]).keep (al _ (.cells #[.int .u8 (D : Int), .slice AX a ca, .slice AY bn cb, .int .i8 vN] 43)))
  have HU := Lib.hid (Blk.new (w.alloc (.cells #[.int .i64 n, .slice AE len ce] 24)) 43 #[.int .u8 (D : Int), .slice AX a ca, .slice AY bn cb, .int .i8 vN])
  rw [show (w.alloc (.cells #[.int .i64 n, .slice AE len ce] 24)).heap.size = w.heap.size + 1 from by simp] at HU
  have HB := Lib.hid hbw
  clear hbw
  generalize (w.alloc (.cells #[.int .i64 n, .slice AE len ce] 24)).alloc (.cells #[.int .u8 (D : Int), .slice AX a ca, .slice AY bn cb, .int .i8 vN] 43) = w1 at *
  obtain ⟨g3, hg3⟩ : ∃ g3, g3 = w.heap.size := ⟨_, rfl⟩
  obtain ⟨g5, hg5⟩ : ∃ g5, g5 = w.heap.size + 1 := ⟨_, rfl⟩
  rw [← hg5] at HU ⊢
  rw [← hg3] at HG ⊢
  have HGg3 := Lib.hid (show w.heap.size ≤ g3 ∧ w.heap.size ≤ g5 from by omega)
  clear hg3 hg5
  have x0 := Blk.at0 HG.out (Below.refl _ _); have x1 := Blk.at1 HG.out (Below.refl _ _)
  go_wp2_with fail
  refine (great29_any n len ce AE es w1 ((HE0.out.below HB.out).more HB.out.size)).mono ?_
  rintro e w2 ⟨v, rfl, ⟨t, rfl, ht⟩, hb⟩
  clear x0 x1
  have HT := Lib.hid ht; clear ht
  replace HB := Lib.hid (bthen HB.out hb HB.out.size)
  replace HG := Lib.hid (HG.out.keep hb)
  replace HU := Lib.hid (HU.out.keep hb)
  clear hb
  cases t with
  | true =>
    go_wp2_with fail
    refine (awake29_any _).mono ?_
    rintro e w3 ⟨rfl, hb⟩
    go_wp2_with fail
    go_ret
    exact ⟨rfl, bthen HB.out hb HB.out.size⟩
  | false =>
    have HGr := Lib.hid (HT.out rfl); clear HT
    have y0 := Blk.at0 HU.out (Below.refl _ _); have y1 := Blk.at1 HU.out (Below.refl _ _); have y2 := Blk.at2 HU.out (Below.refl _ _); have y3 := Blk.at3 HU.out (Below.refl _ _)
    by_cases hln : (a : Int) + (bn : Int) > 30
    · skip
      go_wp2_with fail
      refine (awake29_any _).mono ?_
      rintro e w3 ⟨rfl, hb⟩
      go_wp2_with fail
      go_ret
      exact ⟨rfl, bthen HB.out hb HB.out.size⟩
    have HLn := Lib.hid (show a ≤ 30 ∧ bn ≤ 30 by omega)
    have x0 := Blk.at0 HG.out (Below.refl _ _); have x1 := Blk.at1 HG.out (Below.refl _ _)
    go_wp2_with fail
    refine (cvof_any n s len ce AE es w2 ((HE0.out.below HB.out).more HB.out.size) HS32.out HGr.out.1).mono ?_
    rintro e w3 ⟨v, rfl, hv, hb⟩
    obtain ⟨z, AW, mW, cw, AP, nP, cp, s0, A0, k0, c0, B0, m0, d0, rfl, ho⟩ := hv.get
    clear hv x0 x1 y0 y1 y2 y3
    have HO := Lib.hid ho; clear ho
    replace HB := Lib.hid (bthen HB.out hb HB.out.size)
    replace HG := Lib.hid (HG.out.keep hb)
    replace HU := Lib.hid (HU.out.keep hb)
    clear hb
    go_upto_region 4 with (fail)
    have hbw := al w3 (.cells #[.slice AW mW cw, .slice AP nP cp, .bool s0, .slice A0 k0 c0, .slice B0 m0 d0] 33)
    have HCo := Lib.hid (Blk.new w3 33 #[.slice AW mW cw, .slice AP nP cp, .bool s0, .slice A0 k0 c0, .slice B0 m0 d0])
    replace HB := Lib.hid (bthen HB.out hbw HB.out.size)
    replace HG := Lib.hid (HG.out.keep hbw)
    replace HU := Lib.hid (HU.out.keep hbw)
    replace HO := Lib.hid (OfE.new HO.out hbw)
    clear hbw
    generalize w3.alloc (.cells #[.slice AW mW cw, .slice AP nP cp, .bool s0, .slice A0 k0 c0, .slice B0 m0 d0] 33) = w4 at *
    obtain ⟨g7, hg7⟩ : ∃ g7, g7 = w3.heap.size := ⟨_, rfl⟩
    rw [← hg7] at HCo ⊢
    have HGg7 := Lib.hid (show w3.heap.size ≤ g7 from by omega)
    clear hg7
    by_cases hz : z = 0
    rotate_left
    · have t0 : (z != 0) = true := by simpa using hz
      go_wp2_with fail
      refine (awake29_any _).mono ?_
      rintro e w5 ⟨rfl, hb⟩
      go_wp2_with fail
      go_ret
      exact ⟨rfl, bthen HB.out hb HB.out.size⟩
    subst hz
    obtain ⟨hc, hra, -, W, P, q, hmW, hnP, hok, -, -, hvq⟩ := HO.out rfl
    obtain rfl : len = mW := hmW.symm
    obtain ⟨h0, -, -, -⟩ := checkCode_zero hc
    obtain ⟨hn6, hl7⟩ := HGr.out.1 hc
    have HVq := Lib.hid hvq; clear hvq HO
    obtain ⟨nn, hnn⟩ : ∃ nn : Nat, n.toNat = nn := ⟨_, rfl⟩
    rw [hnn] at hok hra hnP
    obtain rfl : nn = nP := hnP.symm
    obtain rfl : n = (nn : Int) := by omega
    have HN6 := Lib.hid (show nn ≤ 6 by omega); have HL7 := Lib.hid hl7; have HOk := Lib.hid hok; have HCc := Lib.hid hc; have HRa := Lib.hid hra
    clear h0 hn6 hl7 hok hc hra hnn
    have y0 := Blk.at0 HU.out (Below.refl _ _); have y1 := Blk.at1 HU.out (Below.refl _ _); have y2 := Blk.at2 HU.out (Below.refl _ _); have y3 := Blk.at3 HU.out (Below.refl _ _)
    go_wp2_with fail
    refine (made_any D a bn ca cb AX AY xs ys vN w4 (HX0.out.below HB.out |>.more HB.out.size) (HY0.out.below HB.out |>.more HB.out.size) hD HVn.out (by have := HLn.out; omega)).mono ?_
    rintro e w5 ⟨v, rfl, ⟨A2, c2, D2, d2, s2, A5, k5, c5, B5, m5, d5, A1, c1, D1, d1, rfl, -, -, -, hx1, hy1⟩, hb⟩
    obtain ⟨dn, hdn⟩ : ∃ dn, dn = D % 6 + 1 := ⟨_, rfl⟩
    rw [← hdn]
    have HDn := Lib.hid (show 1 ≤ dn ∧ dn ≤ 6 by omega)
    clear hdn y0 y1 y2 y3
    have HX1 := Lib.hid hx1; have HY1 := Lib.hid hy1; clear hx1 hy1
    replace HB := Lib.hid (bthen HB.out hb HB.out.size)
    replace HG := Lib.hid (HG.out.keep hb)
    replace HU := Lib.hid (HU.out.keep hb)
    replace HCo := Lib.hid (HCo.out.keep hb)
    replace HVq := Lib.hid (HVq.out.new hb)
    clear hb
    go_upto_region 7 with (fail)
    have hbw := al w5 (.cells #[.slice A2 a c2, .slice D2 bn d2, .bool s2, .slice A5 k5 c5, .slice B5 m5 d5] 33)
    have HM := Lib.hid (Blk.new w5 33 #[.slice A2 a c2, .slice D2 bn d2, .bool s2, .slice A5 k5 c5, .slice B5 m5 d5])
    replace HB := Lib.hid (bthen HB.out hbw HB.out.size)
    replace HG := Lib.hid (HG.out.keep hbw)
    replace HU := Lib.hid (HU.out.keep hbw)
    replace HCo := Lib.hid (HCo.out.keep hbw)
    replace HVq := Lib.hid (HVq.out.new hbw)
    replace HX1 := Lib.hid (HX1.out.new hbw)
    replace HY1 := Lib.hid (HY1.out.new hbw)
    clear hbw
    generalize w5.alloc (.cells #[.slice A2 a c2, .slice D2 bn d2, .bool s2, .slice A5 k5 c5, .slice B5 m5 d5] 33) = w6 at *
    obtain ⟨g9, hg9⟩ : ∃ g9, g9 = w5.heap.size := ⟨_, rfl⟩
    rw [← hg9] at HM ⊢
    have HGg9 := Lib.hid (show w5.heap.size ≤ g9 from by omega)
    clear hg9
    clear HM
    have HXb := Lib.hid (show ∀ j, j < a → -128 ≤ inth xs j ∧ inth xs j < 128 from fun j hj => HX0.out.lt hj)
    have HYb := Lib.hid (show ∀ j, j < bn → -128 ≤ inth ys j ∧ inth ys j < 128 from fun j hj => HY0.out.lt hj)
    have HI1 := Lib.hid (isum_bd (f := inth xs) (n := a) (fun j hj => by have := HXb.out j hj; omega))
    have HI2 := Lib.hid (isum_bd (f := inth ys) (n := bn) (fun j hj => by have := HYb.out j hj; omega))
    by_cases hcv : a = len ∧ CvI nn len (nth es) s (inth xs) dn
    · skip
      have HCv := Lib.hid hcv; clear hcv
      have HLe1 := Lib.hid (show q ≤ ((isum (inth xs) a : Int) : Rat) / ((dn : Int) : Rat) from by rw [HCv.out.1]; exact CovOK.le_cov (by have := HDn.out; omega) HOk.out HCv.out.2)
      by_cases hpk : bn = nn ∧ PkI nn len (nth es) s (inth ys) dn
      · skip
        have HPk := Lib.hid hpk; clear hpk
        have HLe2 := Lib.hid (show ((isum (inth ys) bn : Int) : Rat) / ((dn : Int) : Rat) ≤ q from by rw [HPk.out.1]; exact CovOK.pac_le (by have := HDn.out; omega) HOk.out HPk.out.2)
        refine wp_region_each (kss := [[], [(0, 45)], [], [(2, 47)], [], [], [], [(1, 46), (3, 48), (4, 49), (5, 50), (6, 51)], [(7, 52)], [(8, 53)], [(8, 53), (9, 54)], [(8, 53)], [(8, 53), (10, 55), (11, 56)], [(8, 53)], [(8, 53), (13, 58)], [(8, 53), (12, 57), (14, 59)], [(8, 53), (15, 60)], [(8, 53), (16, 61)], [(17, 62)], [(18, 63)], [(18, 63), (19, 64)], [(18, 63)], [(18, 63), (21, 66)], [(18, 63)], [(18, 63)], [(18, 63)], [(18, 63), (20, 65), (22, 67), (23, 68), (24, 69), (25, 70)], [(18, 63), (26, 71)], [(27, 72)], [(27, 72), (28, 73)], [(27, 72)], [(27, 72), (29, 74), (30, 75)], [(27, 72)], [(27, 72), (32, 77)], [(27, 72), (31, 76), (33, 78)], [(27, 72), (34, 79)], [(18, 63), (27, 72), (35, 80)], [(18, 63), (36, 81)]]) [(3, .pointer (some ⟨g3, 0, none⟩)), (1, .int .u32 ((s : Int))), (10, .slice A1 a c1), (12, .int .i64 ((dn : Int))), (7, .pointer (some ⟨g7, 0, none⟩)), (11, .slice D1 bn d1)] [EV (.pointer (some ⟨g3, 0, none⟩)), EV (.int .i64 ((nn : Int))), EV (.pointer (some ⟨g3, 1, none⟩)), EV (.slice AE len ce), EV (.int .u32 ((s : Int))), EV (.slice A1 a c1), EV (.int .i64 ((dn : Int))), EV (.bool true), EV (.bool true), EV (.slice A1 a c1), EV (.int .i64 ((isum (inth xs) a))), EV (.int .i64 ((dn : Int))), Rv (2) (((isum (inth xs) a : Int) : Rat) / ((dn : Int) : Rat)), EV (.pointer (some ⟨g7, 2, none⟩)), Rw (60) (q), EV (.int .i64 (rcq (((isum (inth xs) a : Int) : Rat) / ((dn : Int) : Rat)) q)), EV (.bool false), EV (.bool false), EV (.bool false), EV (.pointer (some ⟨g3, 0, none⟩)), EV (.int .i64 ((nn : Int))), EV (.pointer (some ⟨g3, 1, none⟩)), EV (.slice AE len ce), EV (.int .u32 ((s : Int))), EV (.slice D1 bn d1), EV (.int .i64 ((dn : Int))), EV (.bool true), EV (.bool true), EV (.slice D1 bn d1), EV (.int .i64 ((isum (inth ys) bn))), EV (.int .i64 ((dn : Int))), Rv (2) (((isum (inth ys) bn : Int) : Rat) / ((dn : Int) : Rat)), EV (.pointer (some ⟨g7, 2, none⟩)), Rw (60) (q), EV (.int .i64 (rcq (((isum (inth ys) bn : Int) : Rat) / ((dn : Int) : Rat)) q)), EV (.bool false), EV (.bool false), EV (.bool false)] (by kernel_rfl) (by kernel_rfl) ⟨rfl, rfl, rfl, rfl, rfl, rfl, trivial⟩ ?_ ?_ ?_
        · exact ⟨eI, eI, eI, eI, eI, eI, eI, eI, eI, eI, eI, eI, fun _ _ _ h hb => h.new hb, eI, fun _ _ _ h hb => h.new hb, eI, eI, eI, eI, eI, eI, eI, eI, eI, eI, eI, eI, eI, eI, eI, eI, fun _ _ _ h hb => h.new hb, eI, fun _ _ _ h hb => h.new hb, eI, eI, eI, eI, trivial⟩
        · refine ⟨?_, ?_, ?_, ?_, ?_, ?_, ?_, ?_, ?_, ?_, ?_, ?_, ?_, ?_, ?_, ?_, ?_, ?_, ?_, ?_, ?_, ?_, ?_, ?_, ?_, ?_, ?_, ?_, ?_, ?_, ?_, ?_, ?_, ?_, ?_, ?_, ?_, ?_, trivial⟩
          · exact fun aa ww hb he hd => ob_plain rfl (fld_hgr (k := 0) rfl (by decide) he.1)
          · exact fun aa ww hb he hd => ob_plain rfl (load_c3 rfl hd.1 (Blk.at0 HG.out hb))
          · exact fun aa ww hb he hd => ob_plain rfl (fld_hgr (k := 1) rfl (by decide) he.1)
          · exact fun aa ww hb he hd => ob_plain rfl (load_c38 rfl hd.1 (Blk.at1 HG.out hb))
          · exact fun _ _ _ he hd => ob_mv rfl rfl he.2.1
          · exact fun _ _ _ he hd => ob_mv rfl rfl he.2.2.1
          · exact fun _ _ _ he hd => ob_mv rfl rfl he.2.2.2.1
          · exact fun aa ww hb he hd => ob_plain rfl (gives_call5 _ _ _ _ _ _ _ rfl (by kernel_rfl) (by rw [show aa.eval (.tmp 46) = _ from hd.1, show aa.eval (.tmp 48) = _ from hd.2.1, show aa.eval (.tmp 49) = _ from hd.2.2.1, show aa.eval (.tmp 50) = _ from hd.2.2.2.1, show aa.eval (.tmp 51) = _ from hd.2.2.2.2.1]; exact rvb_t (covers9_any nn len a s dn ce c1 AE A1 es xs _ ((HE0.out.below (bthen HB.out hb HB.out.size)).more (bthen HB.out hb HB.out.size).size) (HX1.out.new hb) HS32.out HN6.out (by have := HL7.out; have := HLn.out; omega) (by have := HDn.out; omega) HXb.out) HCv.out))
          · exact fun _ _ _ he hd => ob_mv rfl rfl hd.1
          · exact fun aa ww hb he hd => ob_on 53 rfl (by kernel_rfl) hd.1 (gives_move _ rfl ⟨he.2.2.1, Below.refl _ _⟩)
          · exact fun aa ww hb he hd => ob_on 53 rfl (by kernel_rfl) hd.1 (gives_call1 _ _ _ rfl (by kernel_rfl) (by rw [show aa.eval (.tmp 54) = _ from hd.2.1]; exact rv_sum9 (HX1.out.new hb) (by have := HLn.out; omega) HXb.out))
          · exact fun aa ww hb he hd => ob_on 53 rfl (by kernel_rfl) hd.1 (gives_move _ rfl ⟨he.2.2.2.1, Below.refl _ _⟩)
          · exact fun aa ww hb he hd => ob_on 53 rfl (by kernel_rfl) hd.1 (gives_call2 _ _ _ _ rfl (by kernel_rfl) (by rw [show aa.eval (.tmp 55) = _ from hd.2.1, show aa.eval (.tmp 56) = _ from hd.2.2.1]; exact of29_any (isum (inth xs) a) (dn : Int) (by have := HI1.out; have := HLn.out; omega) (by have := HDn.out; omega) (by have := HDn.out; omega) _))
          · exact fun aa ww hb he hd => ob_on 53 rfl (by kernel_rfl) hd.1 (fld_cov (k := 2) rfl (by decide) he.2.2.2.2.1)
          · exact fun aa ww hb he hd => ob_on 53 rfl (by kernel_rfl) hd.1 (load_cvv rfl hd.2.1 (Blk.keep HCo.out hb) (Rw.new HVq.out hb))
          · exact fun aa ww hb he hd => ob_on 53 rfl (by kernel_rfl) hd.1 (gives_call2 _ _ _ _ rfl (by kernel_rfl) (cmp_v (hd.2.1.rw) (hd.2.2.1) (by omega)))
          · exact fun aa ww hb he hd => ob_on 53 rfl (by kernel_rfl) hd.1 (gives_lt_int (rcq (((isum (inth xs) a : Int) : Rat) / ((dn : Int) : Rat)) q) 0 .i64 _ _ _ _ rfl hd.2.1 rfl ⟨congrArg Value.bool (rcq_lt9 HLe1.out), Below.refl _ _⟩)
          · exact fun aa ww hb he hd => ob_plain rfl (gives_pick true _ _ _ rfl hd.1 ⟨hd.2.1, Below.refl _ _⟩)
          · exact fun _ _ _ he hd => ob_mv rfl rfl hd.1
          · exact fun aa ww hb he hd => ob_on 63 rfl (by kernel_rfl) hd.1 (fld_hgr (k := 0) rfl (by decide) he.1)
          · exact fun aa ww hb he hd => ob_on 63 rfl (by kernel_rfl) hd.1 (load_c3 rfl hd.2.1 (Blk.at0 HG.out hb))
          · exact fun aa ww hb he hd => ob_on 63 rfl (by kernel_rfl) hd.1 (fld_hgr (k := 1) rfl (by decide) he.1)
          · exact fun aa ww hb he hd => ob_on 63 rfl (by kernel_rfl) hd.1 (load_c38 rfl hd.2.1 (Blk.at1 HG.out hb))
          · exact fun aa ww hb he hd => ob_on 63 rfl (by kernel_rfl) hd.1 (gives_move _ rfl ⟨he.2.1, Below.refl _ _⟩)
          · exact fun aa ww hb he hd => ob_on 63 rfl (by kernel_rfl) hd.1 (gives_move _ rfl ⟨he.2.2.2.2.2.1, Below.refl _ _⟩)
          · exact fun aa ww hb he hd => ob_on 63 rfl (by kernel_rfl) hd.1 (gives_move _ rfl ⟨he.2.2.2.1, Below.refl _ _⟩)
          · exact fun aa ww hb he hd => ob_on 63 rfl (by kernel_rfl) hd.1 (gives_call5 _ _ _ _ _ _ _ rfl (by kernel_rfl) (by rw [show aa.eval (.tmp 65) = _ from hd.2.1, show aa.eval (.tmp 67) = _ from hd.2.2.1, show aa.eval (.tmp 68) = _ from hd.2.2.2.1, show aa.eval (.tmp 69) = _ from hd.2.2.2.2.1, show aa.eval (.tmp 70) = _ from hd.2.2.2.2.2.1]; exact rvb_t (packs9_any nn len bn s dn ce d1 AE D1 es ys _ ((HE0.out.below (bthen HB.out hb HB.out.size)).more (bthen HB.out hb HB.out.size).size) (HY1.out.new hb) HS32.out HN6.out (by have := HL7.out; have := HLn.out; omega) (by have := HDn.out; omega) HYb.out) HPk.out))
          · exact fun aa ww hb he hd => ob_on 63 rfl (by kernel_rfl) hd.1 (gives_move _ rfl ⟨hd.2.1, Below.refl _ _⟩)
          · exact fun aa ww hb he hd => ob_on 72 rfl (by kernel_rfl) hd.1 (gives_move _ rfl ⟨he.2.2.2.2.2.1, Below.refl _ _⟩)
          · exact fun aa ww hb he hd => ob_on 72 rfl (by kernel_rfl) hd.1 (gives_call1 _ _ _ rfl (by kernel_rfl) (by rw [show aa.eval (.tmp 73) = _ from hd.2.1]; exact rv_sum9 (HY1.out.new hb) (by have := HLn.out; omega) HYb.out))
          · exact fun aa ww hb he hd => ob_on 72 rfl (by kernel_rfl) hd.1 (gives_move _ rfl ⟨he.2.2.2.1, Below.refl _ _⟩)
          · exact fun aa ww hb he hd => ob_on 72 rfl (by kernel_rfl) hd.1 (gives_call2 _ _ _ _ rfl (by kernel_rfl) (by rw [show aa.eval (.tmp 74) = _ from hd.2.1, show aa.eval (.tmp 75) = _ from hd.2.2.1]; exact of29_any (isum (inth ys) bn) (dn : Int) (by have := HI2.out; have := HLn.out; omega) (by have := HDn.out; omega) (by have := HDn.out; omega) _))
          · exact fun aa ww hb he hd => ob_on 72 rfl (by kernel_rfl) hd.1 (fld_cov (k := 2) rfl (by decide) he.2.2.2.2.1)
          · exact fun aa ww hb he hd => ob_on 72 rfl (by kernel_rfl) hd.1 (load_cvv rfl hd.2.1 (Blk.keep HCo.out hb) (Rw.new HVq.out hb))
          · exact fun aa ww hb he hd => ob_on 72 rfl (by kernel_rfl) hd.1 (gives_call2 _ _ _ _ rfl (by kernel_rfl) (cmp_v (hd.2.1.rw) (hd.2.2.1) (by omega)))
          · exact fun aa ww hb he hd => ob_on 72 rfl (by kernel_rfl) hd.1 (gives_gt_int (rcq (((isum (inth ys) bn : Int) : Rat) / ((dn : Int) : Rat)) q) 0 .i64 _ _ _ _ rfl hd.2.1 rfl ⟨congrArg Value.bool (rcq_gt9 HLe2.out), Below.refl _ _⟩)
          · exact fun aa ww hb he hd => ob_on 63 rfl (by kernel_rfl) hd.1 (gives_pick true _ _ _ rfl hd.2.1 ⟨hd.2.2.1, Below.refl _ _⟩)
          · exact fun aa ww hb he hd => ob_plain rfl (gives_pick false _ _ _ rfl hd.1 ⟨hd.2.1, Below.refl _ _⟩)
        intro vs w7 hb hR
        have e82 : vs 37 = .bool false := hR 37 (by decide)
        clear hR
        simp only [putsL, Nat.zero_add, Nat.reduceAdd, List.take_succ_cons, List.take_zero, Act.put, List.setIfInBounds_toArray, List.set_cons_zero, List.set_cons_succ]
        rw [e82]
        clear e82
        replace HB := Lib.hid (bthen HB.out hb HB.out.size)
        replace HG := Lib.hid (HG.out.keep hb)
        replace HU := Lib.hid (HU.out.keep hb)
        replace HCo := Lib.hid (HCo.out.keep hb)
        replace HVq := Lib.hid (HVq.out.new hb)
        replace HX1 := Lib.hid (HX1.out.new hb)
        replace HY1 := Lib.hid (HY1.out.new hb)
        clear hb
        have x0 := Blk.at0 HG.out (Below.refl _ _); have x1 := Blk.at1 HG.out (Below.refl _ _)
        go_wp2_with fail
        refine (inside_ok nn s AE es len ce w7 ((HE0.out.below HB.out).more HB.out.size) HCc.out HS32.out).mono ?_
        rintro e w8 ⟨rfl, hb⟩
        clear x0 x1
        obtain ⟨ib, hib⟩ : ∃ ib, ib = es.any (holdsB s) := ⟨_, rfl⟩
        rw [← hib]
        have HIb := Lib.hid hib; clear hib
        replace HB := Lib.hid (bthen HB.out hb HB.out.size)
        replace HG := Lib.hid (HG.out.keep hb)
        replace HU := Lib.hid (HU.out.keep hb)
        replace HCo := Lib.hid (HCo.out.keep hb)
        replace HVq := Lib.hid (HVq.out.new hb)
        replace HX1 := Lib.hid (HX1.out.new hb)
        replace HY1 := Lib.hid (HY1.out.new hb)
        clear hb
        go_upto_region 10 with (fail)
        refine wp_region_each (kss := [[], [(0, 89)], [], [(1, 90), (2, 91)], [(3, 92)], [(4, 93)]]) [(7, .pointer (some ⟨g7, 0, none⟩))] [EV (.pointer (some ⟨g7, 2, none⟩)), Rw (60) (q), Rv (2) (((1 : Int) : Rat)), EV (.int .i64 (rcq q (((1 : Int) : Rat)))), EV (.bool (decide (q = 1))), EV (.bool (decide (q = 1)))] (by kernel_rfl) (by kernel_rfl) ⟨rfl, trivial⟩ ?_ ?_ ?_
        · exact ⟨eI, fun _ _ _ h hb => h.new hb, fun _ _ _ h hb => h.new hb, eI, eI, eI, trivial⟩
        · refine ⟨?_, ?_, ?_, ?_, ?_, ?_, trivial⟩
          · exact fun aa ww hb he hd => ob_plain rfl (fld_cov (k := 2) rfl (by decide) he.1)
          · exact fun aa ww hb he hd => ob_plain rfl (load_cvv rfl hd.1 (Blk.keep HCo.out hb) (Rw.new HVq.out hb))
          · exact fun aa ww hb he hd => ob_plain rfl (gives_call1 _ _ _ rfl (by kernel_rfl) (int_w (1) (by omega) (by omega) _ rfl _))
          · exact fun aa ww hb he hd => ob_plain rfl (gives_call2 _ _ _ _ rfl (by kernel_rfl) (cmp_v (hd.1) (hd.2.1.rw) (by omega)))
          · exact fun aa ww hb he hd => ob_plain rfl (gives_eq_int (rcq q (((1 : Int) : Rat))) 0 .i64 _ _ _ _ rfl hd.1 rfl ⟨congrArg Value.bool (rcq_eq9), Below.refl _ _⟩)
          · exact fun aa ww hb he hd => ob_plain rfl (gives_assign _ rfl ⟨hd.1, Below.refl _ _⟩)
        intro vs w9 hb hR
        have e15 : vs 5 = .bool (decide (q = 1)) := hR 5 (by decide)
        clear hR
        simp only [putsL, Nat.zero_add, Nat.reduceAdd, List.take_succ_cons, List.take_zero, Act.put, List.setIfInBounds_toArray, List.set_cons_zero, List.set_cons_succ]
        rw [e15]
        clear e15
        replace HB := Lib.hid (bthen HB.out hb HB.out.size)
        replace HG := Lib.hid (HG.out.keep hb)
        replace HU := Lib.hid (HU.out.keep hb)
        replace HCo := Lib.hid (HCo.out.keep hb)
        replace HVq := Lib.hid (HVq.out.new hb)
        replace HX1 := Lib.hid (HX1.out.new hb)
        replace HY1 := Lib.hid (HY1.out.new hb)
        clear hb
        have h1 := HOk.out.one_iff (fun x hx => low_bits (by have := HN6.out; omega) HS32.out HRa.out hx)
        have h0 := HOk.out.zero_iff (fun x hx => low_bits (by have := HN6.out; omega) HS32.out HRa.out hx)
        have hany := any_holds (len := len) HE0.out.len HS32.out HE0.out.2.2
        by_cases hs0 : s = 0
        · skip
          have hq1 : decide (q = 1) = false := by rw [decide_eq_false_iff_not]; intro h; exact (h1.1 h).1 hs0
          have hq0 : q = 0 := h0.2 hs0
          rw [hq1]
          subst hs0
          subst hq0
          clear h1 h0 hany hq1
          have c2 := Blk.at2 HCo.out (Below.refl _ _); have c3 := Blk.at3 HCo.out (Below.refl _ _); have c4 := Blk.at4 HCo.out (Below.refl _ _)
          go_wp2_with fail
          refine (sign_v HVq.out).mono ?_
          rintro e wA ⟨v, rfl, rfl, hb⟩
          have e0 : (0 : Rat).num.sign = 0 := rfl
          rw [e0]
          replace HB := Lib.hid (bthen HB.out hb HB.out.size)
          clear hb
          go_wp2_with fail
          refine (awake29_any _).mono ?_
          rintro e wB ⟨rfl, hb⟩
          go_wp2_with fail
          go_ret
          exact ⟨rfl, bthen HB.out hb HB.out.size⟩
        have hq1 : decide (q = 1) = ib := by
          cases hb9 : ib with
          | false => rw [decide_eq_false_iff_not]; intro h; have := hany.2 (h1.1 h).2; rw [← HIb.out, hb9] at this; exact absurd this (by decide)
          | true => rw [decide_eq_true_iff]; exact h1.2 ⟨hs0, hany.1 (by rw [← HIb.out, hb9])⟩
        have hq0 : ¬ q = 0 := fun h => hs0 (h0.1 h)
        have hsg : (q.num.sign == 0) = false := sign_eq9.trans (decide_eq_false hq0)
        have t9 : (((s : Nat) : Int) != 0) = true := by simp; omega
        have t8 : (((s : Nat) : Int) == 0) = false := by simp; omega
        rw [hq1]
        clear h1 h0 hany hq1 hq0
        have c2 := Blk.at2 HCo.out (Below.refl _ _); have c3 := Blk.at3 HCo.out (Below.refl _ _); have c4 := Blk.at4 HCo.out (Below.refl _ _)
        have hib2 : (ib == ib) = true := by cases ib <;> rfl
        go_wp2_with fail
        refine (sign_v HVq.out).mono ?_
        rintro e wA ⟨v, rfl, rfl, hb⟩
        replace HB := Lib.hid (bthen HB.out hb HB.out.size)
        clear hb
        go_wp2_with fail
        refine (awake29_any _).mono ?_
        rintro e wB ⟨rfl, hb⟩
        go_wp2_with fail
        go_ret
        exact ⟨rfl, bthen HB.out hb HB.out.size⟩
      have HPk := Lib.hid hpk; clear hpk
      refine wp_region_each (kss := [[], [(0, 45)], [], [(2, 47)], [], [], [], [(1, 46), (3, 48), (4, 49), (5, 50), (6, 51)], [(7, 52)], [(8, 53)], [(8, 53), (9, 54)], [(8, 53)], [(8, 53), (10, 55), (11, 56)], [(8, 53)], [(8, 53), (13, 58)], [(8, 53), (12, 57), (14, 59)], [(8, 53), (15, 60)], [(8, 53), (16, 61)], [(17, 62)], [(18, 63)], [(18, 63), (19, 64)], [(18, 63)], [(18, 63), (21, 66)], [(18, 63)], [(18, 63)], [(18, 63)], [(18, 63), (20, 65), (22, 67), (23, 68), (24, 69), (25, 70)], [(18, 63), (26, 71)], [(27, 72)], [(27, 72), (28, 73)], [(27, 72)], [(27, 72), (29, 74), (30, 75)], [(27, 72)], [(27, 72), (32, 77)], [(27, 72), (31, 76), (33, 78)], [(27, 72), (34, 79)], [(18, 63), (27, 72), (35, 80)], [(18, 63), (36, 81)]]) [(3, .pointer (some ⟨g3, 0, none⟩)), (1, .int .u32 ((s : Int))), (10, .slice A1 a c1), (12, .int .i64 ((dn : Int))), (7, .pointer (some ⟨g7, 0, none⟩)), (11, .slice D1 bn d1)] [EV (.pointer (some ⟨g3, 0, none⟩)), EV (.int .i64 ((nn : Int))), EV (.pointer (some ⟨g3, 1, none⟩)), EV (.slice AE len ce), EV (.int .u32 ((s : Int))), EV (.slice A1 a c1), EV (.int .i64 ((dn : Int))), EV (.bool true), EV (.bool true), EV (.slice A1 a c1), EV (.int .i64 ((isum (inth xs) a))), EV (.int .i64 ((dn : Int))), Rv (2) (((isum (inth xs) a : Int) : Rat) / ((dn : Int) : Rat)), EV (.pointer (some ⟨g7, 2, none⟩)), Rw (60) (q), EV (.int .i64 (rcq (((isum (inth xs) a : Int) : Rat) / ((dn : Int) : Rat)) q)), EV (.bool false), EV (.bool false), EV (.bool false), EV (.pointer (some ⟨g3, 0, none⟩)), EV (.int .i64 ((nn : Int))), EV (.pointer (some ⟨g3, 1, none⟩)), EV (.slice AE len ce), EV (.int .u32 ((s : Int))), EV (.slice D1 bn d1), EV (.int .i64 ((dn : Int))), EV (.bool false), EV (.bool false), EV (undef), EV (undef), EV (undef), EV (undef), EV (undef), EV (undef), EV (undef), EV (undef), EV (.bool false), EV (.bool false)] (by kernel_rfl) (by kernel_rfl) ⟨rfl, rfl, rfl, rfl, rfl, rfl, trivial⟩ ?_ ?_ ?_
      · exact ⟨eI, eI, eI, eI, eI, eI, eI, eI, eI, eI, eI, eI, fun _ _ _ h hb => h.new hb, eI, fun _ _ _ h hb => h.new hb, eI, eI, eI, eI, eI, eI, eI, eI, eI, eI, eI, eI, eI, eI, eI, eI, eI, eI, eI, eI, eI, eI, eI, trivial⟩
      · refine ⟨?_, ?_, ?_, ?_, ?_, ?_, ?_, ?_, ?_, ?_, ?_, ?_, ?_, ?_, ?_, ?_, ?_, ?_, ?_, ?_, ?_, ?_, ?_, ?_, ?_, ?_, ?_, ?_, ?_, ?_, ?_, ?_, ?_, ?_, ?_, ?_, ?_, ?_, trivial⟩
        · exact fun aa ww hb he hd => ob_plain rfl (fld_hgr (k := 0) rfl (by decide) he.1)
        · exact fun aa ww hb he hd => ob_plain rfl (load_c3 rfl hd.1 (Blk.at0 HG.out hb))
        · exact fun aa ww hb he hd => ob_plain rfl (fld_hgr (k := 1) rfl (by decide) he.1)
        · exact fun aa ww hb he hd => ob_plain rfl (load_c38 rfl hd.1 (Blk.at1 HG.out hb))
        · exact fun _ _ _ he hd => ob_mv rfl rfl he.2.1
        · exact fun _ _ _ he hd => ob_mv rfl rfl he.2.2.1
        · exact fun _ _ _ he hd => ob_mv rfl rfl he.2.2.2.1
        · exact fun aa ww hb he hd => ob_plain rfl (gives_call5 _ _ _ _ _ _ _ rfl (by kernel_rfl) (by rw [show aa.eval (.tmp 46) = _ from hd.1, show aa.eval (.tmp 48) = _ from hd.2.1, show aa.eval (.tmp 49) = _ from hd.2.2.1, show aa.eval (.tmp 50) = _ from hd.2.2.2.1, show aa.eval (.tmp 51) = _ from hd.2.2.2.2.1]; exact rvb_t (covers9_any nn len a s dn ce c1 AE A1 es xs _ ((HE0.out.below (bthen HB.out hb HB.out.size)).more (bthen HB.out hb HB.out.size).size) (HX1.out.new hb) HS32.out HN6.out (by have := HL7.out; have := HLn.out; omega) (by have := HDn.out; omega) HXb.out) HCv.out))
        · exact fun _ _ _ he hd => ob_mv rfl rfl hd.1
        · exact fun aa ww hb he hd => ob_on 53 rfl (by kernel_rfl) hd.1 (gives_move _ rfl ⟨he.2.2.1, Below.refl _ _⟩)
        · exact fun aa ww hb he hd => ob_on 53 rfl (by kernel_rfl) hd.1 (gives_call1 _ _ _ rfl (by kernel_rfl) (by rw [show aa.eval (.tmp 54) = _ from hd.2.1]; exact rv_sum9 (HX1.out.new hb) (by have := HLn.out; omega) HXb.out))
        · exact fun aa ww hb he hd => ob_on 53 rfl (by kernel_rfl) hd.1 (gives_move _ rfl ⟨he.2.2.2.1, Below.refl _ _⟩)
        · exact fun aa ww hb he hd => ob_on 53 rfl (by kernel_rfl) hd.1 (gives_call2 _ _ _ _ rfl (by kernel_rfl) (by rw [show aa.eval (.tmp 55) = _ from hd.2.1, show aa.eval (.tmp 56) = _ from hd.2.2.1]; exact of29_any (isum (inth xs) a) (dn : Int) (by have := HI1.out; have := HLn.out; omega) (by have := HDn.out; omega) (by have := HDn.out; omega) _))
        · exact fun aa ww hb he hd => ob_on 53 rfl (by kernel_rfl) hd.1 (fld_cov (k := 2) rfl (by decide) he.2.2.2.2.1)
        · exact fun aa ww hb he hd => ob_on 53 rfl (by kernel_rfl) hd.1 (load_cvv rfl hd.2.1 (Blk.keep HCo.out hb) (Rw.new HVq.out hb))
        · exact fun aa ww hb he hd => ob_on 53 rfl (by kernel_rfl) hd.1 (gives_call2 _ _ _ _ rfl (by kernel_rfl) (cmp_v (hd.2.1.rw) (hd.2.2.1) (by omega)))
        · exact fun aa ww hb he hd => ob_on 53 rfl (by kernel_rfl) hd.1 (gives_lt_int (rcq (((isum (inth xs) a : Int) : Rat) / ((dn : Int) : Rat)) q) 0 .i64 _ _ _ _ rfl hd.2.1 rfl ⟨congrArg Value.bool (rcq_lt9 HLe1.out), Below.refl _ _⟩)
        · exact fun aa ww hb he hd => ob_plain rfl (gives_pick true _ _ _ rfl hd.1 ⟨hd.2.1, Below.refl _ _⟩)
        · exact fun _ _ _ he hd => ob_mv rfl rfl hd.1
        · exact fun aa ww hb he hd => ob_on 63 rfl (by kernel_rfl) hd.1 (fld_hgr (k := 0) rfl (by decide) he.1)
        · exact fun aa ww hb he hd => ob_on 63 rfl (by kernel_rfl) hd.1 (load_c3 rfl hd.2.1 (Blk.at0 HG.out hb))
        · exact fun aa ww hb he hd => ob_on 63 rfl (by kernel_rfl) hd.1 (fld_hgr (k := 1) rfl (by decide) he.1)
        · exact fun aa ww hb he hd => ob_on 63 rfl (by kernel_rfl) hd.1 (load_c38 rfl hd.2.1 (Blk.at1 HG.out hb))
        · exact fun aa ww hb he hd => ob_on 63 rfl (by kernel_rfl) hd.1 (gives_move _ rfl ⟨he.2.1, Below.refl _ _⟩)
        · exact fun aa ww hb he hd => ob_on 63 rfl (by kernel_rfl) hd.1 (gives_move _ rfl ⟨he.2.2.2.2.2.1, Below.refl _ _⟩)
        · exact fun aa ww hb he hd => ob_on 63 rfl (by kernel_rfl) hd.1 (gives_move _ rfl ⟨he.2.2.2.1, Below.refl _ _⟩)
        · exact fun aa ww hb he hd => ob_on 63 rfl (by kernel_rfl) hd.1 (gives_call5 _ _ _ _ _ _ _ rfl (by kernel_rfl) (by rw [show aa.eval (.tmp 65) = _ from hd.2.1, show aa.eval (.tmp 67) = _ from hd.2.2.1, show aa.eval (.tmp 68) = _ from hd.2.2.2.1, show aa.eval (.tmp 69) = _ from hd.2.2.2.2.1, show aa.eval (.tmp 70) = _ from hd.2.2.2.2.2.1]; exact rvb_f (packs9_any nn len bn s dn ce d1 AE D1 es ys _ ((HE0.out.below (bthen HB.out hb HB.out.size)).more (bthen HB.out hb HB.out.size).size) (HY1.out.new hb) HS32.out HN6.out (by have := HL7.out; have := HLn.out; omega) (by have := HDn.out; omega) HYb.out) HPk.out))
        · exact fun aa ww hb he hd => ob_on 63 rfl (by kernel_rfl) hd.1 (gives_move _ rfl ⟨hd.2.1, Below.refl _ _⟩)
        · exact fun aa ww hb he hd => ob_off 72 rfl (by kernel_rfl) hd.1 rfl
        · exact fun aa ww hb he hd => ob_off 72 rfl (by kernel_rfl) hd.1 rfl
        · exact fun aa ww hb he hd => ob_off 72 rfl (by kernel_rfl) hd.1 rfl
        · exact fun aa ww hb he hd => ob_off 72 rfl (by kernel_rfl) hd.1 rfl
        · exact fun aa ww hb he hd => ob_off 72 rfl (by kernel_rfl) hd.1 rfl
        · exact fun aa ww hb he hd => ob_off 72 rfl (by kernel_rfl) hd.1 rfl
        · exact fun aa ww hb he hd => ob_off 72 rfl (by kernel_rfl) hd.1 rfl
        · exact fun aa ww hb he hd => ob_off 72 rfl (by kernel_rfl) hd.1 rfl
        · exact fun aa ww hb he hd => ob_on 63 rfl (by kernel_rfl) hd.1 (gives_pick false _ _ _ rfl hd.2.1 ⟨rfl, Below.refl _ _⟩)
        · exact fun aa ww hb he hd => ob_plain rfl (gives_pick false _ _ _ rfl hd.1 ⟨hd.2.1, Below.refl _ _⟩)
      intro vs w7 hb hR
      have e82 : vs 37 = .bool false := hR 37 (by decide)
      clear hR
      simp only [putsL, Nat.zero_add, Nat.reduceAdd, List.take_succ_cons, List.take_zero, Act.put, List.setIfInBounds_toArray, List.set_cons_zero, List.set_cons_succ]
      rw [e82]
      clear e82
      replace HB := Lib.hid (bthen HB.out hb HB.out.size)
      replace HG := Lib.hid (HG.out.keep hb)
      replace HU := Lib.hid (HU.out.keep hb)
      replace HCo := Lib.hid (HCo.out.keep hb)
      replace HVq := Lib.hid (HVq.out.new hb)
      replace HX1 := Lib.hid (HX1.out.new hb)
      replace HY1 := Lib.hid (HY1.out.new hb)
      clear hb
      have x0 := Blk.at0 HG.out (Below.refl _ _); have x1 := Blk.at1 HG.out (Below.refl _ _)
      go_wp2_with fail
      refine (inside_ok nn s AE es len ce w7 ((HE0.out.below HB.out).more HB.out.size) HCc.out HS32.out).mono ?_
      rintro e w8 ⟨rfl, hb⟩
      clear x0 x1
      obtain ⟨ib, hib⟩ : ∃ ib, ib = es.any (holdsB s) := ⟨_, rfl⟩
      rw [← hib]
      have HIb := Lib.hid hib; clear hib
      replace HB := Lib.hid (bthen HB.out hb HB.out.size)
      replace HG := Lib.hid (HG.out.keep hb)
      replace HU := Lib.hid (HU.out.keep hb)
      replace HCo := Lib.hid (HCo.out.keep hb)
      replace HVq := Lib.hid (HVq.out.new hb)
      replace HX1 := Lib.hid (HX1.out.new hb)
      replace HY1 := Lib.hid (HY1.out.new hb)
      clear hb
      go_upto_region 10 with (fail)
      refine wp_region_each (kss := [[], [(0, 89)], [], [(1, 90), (2, 91)], [(3, 92)], [(4, 93)]]) [(7, .pointer (some ⟨g7, 0, none⟩))] [EV (.pointer (some ⟨g7, 2, none⟩)), Rw (60) (q), Rv (2) (((1 : Int) : Rat)), EV (.int .i64 (rcq q (((1 : Int) : Rat)))), EV (.bool (decide (q = 1))), EV (.bool (decide (q = 1)))] (by kernel_rfl) (by kernel_rfl) ⟨rfl, trivial⟩ ?_ ?_ ?_
      · exact ⟨eI, fun _ _ _ h hb => h.new hb, fun _ _ _ h hb => h.new hb, eI, eI, eI, trivial⟩
      · refine ⟨?_, ?_, ?_, ?_, ?_, ?_, trivial⟩
        · exact fun aa ww hb he hd => ob_plain rfl (fld_cov (k := 2) rfl (by decide) he.1)
        · exact fun aa ww hb he hd => ob_plain rfl (load_cvv rfl hd.1 (Blk.keep HCo.out hb) (Rw.new HVq.out hb))
        · exact fun aa ww hb he hd => ob_plain rfl (gives_call1 _ _ _ rfl (by kernel_rfl) (int_w (1) (by omega) (by omega) _ rfl _))
        · exact fun aa ww hb he hd => ob_plain rfl (gives_call2 _ _ _ _ rfl (by kernel_rfl) (cmp_v (hd.1) (hd.2.1.rw) (by omega)))
        · exact fun aa ww hb he hd => ob_plain rfl (gives_eq_int (rcq q (((1 : Int) : Rat))) 0 .i64 _ _ _ _ rfl hd.1 rfl ⟨congrArg Value.bool (rcq_eq9), Below.refl _ _⟩)
        · exact fun aa ww hb he hd => ob_plain rfl (gives_assign _ rfl ⟨hd.1, Below.refl _ _⟩)
      intro vs w9 hb hR
      have e15 : vs 5 = .bool (decide (q = 1)) := hR 5 (by decide)
      clear hR
      simp only [putsL, Nat.zero_add, Nat.reduceAdd, List.take_succ_cons, List.take_zero, Act.put, List.setIfInBounds_toArray, List.set_cons_zero, List.set_cons_succ]
      rw [e15]
      clear e15
      replace HB := Lib.hid (bthen HB.out hb HB.out.size)
      replace HG := Lib.hid (HG.out.keep hb)
      replace HU := Lib.hid (HU.out.keep hb)
      replace HCo := Lib.hid (HCo.out.keep hb)
      replace HVq := Lib.hid (HVq.out.new hb)
      replace HX1 := Lib.hid (HX1.out.new hb)
      replace HY1 := Lib.hid (HY1.out.new hb)
      clear hb
      have h1 := HOk.out.one_iff (fun x hx => low_bits (by have := HN6.out; omega) HS32.out HRa.out hx)
      have h0 := HOk.out.zero_iff (fun x hx => low_bits (by have := HN6.out; omega) HS32.out HRa.out hx)
      have hany := any_holds (len := len) HE0.out.len HS32.out HE0.out.2.2
      by_cases hs0 : s = 0
      · skip
        have hq1 : decide (q = 1) = false := by rw [decide_eq_false_iff_not]; intro h; exact (h1.1 h).1 hs0
        have hq0 : q = 0 := h0.2 hs0
        rw [hq1]
        subst hs0
        subst hq0
        clear h1 h0 hany hq1
        have c2 := Blk.at2 HCo.out (Below.refl _ _); have c3 := Blk.at3 HCo.out (Below.refl _ _); have c4 := Blk.at4 HCo.out (Below.refl _ _)
        go_wp2_with fail
        refine (sign_v HVq.out).mono ?_
        rintro e wA ⟨v, rfl, rfl, hb⟩
        have e0 : (0 : Rat).num.sign = 0 := rfl
        rw [e0]
        replace HB := Lib.hid (bthen HB.out hb HB.out.size)
        clear hb
        go_wp2_with fail
        refine (awake29_any _).mono ?_
        rintro e wB ⟨rfl, hb⟩
        go_wp2_with fail
        go_ret
        exact ⟨rfl, bthen HB.out hb HB.out.size⟩
      have hq1 : decide (q = 1) = ib := by
        cases hb9 : ib with
        | false => rw [decide_eq_false_iff_not]; intro h; have := hany.2 (h1.1 h).2; rw [← HIb.out, hb9] at this; exact absurd this (by decide)
        | true => rw [decide_eq_true_iff]; exact h1.2 ⟨hs0, hany.1 (by rw [← HIb.out, hb9])⟩
      have hq0 : ¬ q = 0 := fun h => hs0 (h0.1 h)
      have hsg : (q.num.sign == 0) = false := sign_eq9.trans (decide_eq_false hq0)
      have t9 : (((s : Nat) : Int) != 0) = true := by simp; omega
      have t8 : (((s : Nat) : Int) == 0) = false := by simp; omega
      rw [hq1]
      clear h1 h0 hany hq1 hq0
      have c2 := Blk.at2 HCo.out (Below.refl _ _); have c3 := Blk.at3 HCo.out (Below.refl _ _); have c4 := Blk.at4 HCo.out (Below.refl _ _)
      have hib2 : (ib == ib) = true := by cases ib <;> rfl
      go_wp2_with fail
      refine (sign_v HVq.out).mono ?_
      rintro e wA ⟨v, rfl, rfl, hb⟩
      replace HB := Lib.hid (bthen HB.out hb HB.out.size)
      clear hb
      go_wp2_with fail
      refine (awake29_any _).mono ?_
      rintro e wB ⟨rfl, hb⟩
      go_wp2_with fail
      go_ret
      exact ⟨rfl, bthen HB.out hb HB.out.size⟩
    have HCv := Lib.hid hcv; clear hcv
    by_cases hpk : bn = nn ∧ PkI nn len (nth es) s (inth ys) dn
    · skip
      have HPk := Lib.hid hpk; clear hpk
      have HLe2 := Lib.hid (show ((isum (inth ys) bn : Int) : Rat) / ((dn : Int) : Rat) ≤ q from by rw [HPk.out.1]; exact CovOK.pac_le (by have := HDn.out; omega) HOk.out HPk.out.2)
      refine wp_region_each (kss := [[], [(0, 45)], [], [(2, 47)], [], [], [], [(1, 46), (3, 48), (4, 49), (5, 50), (6, 51)], [(7, 52)], [(8, 53)], [(8, 53), (9, 54)], [(8, 53)], [(8, 53), (10, 55), (11, 56)], [(8, 53)], [(8, 53), (13, 58)], [(8, 53), (12, 57), (14, 59)], [(8, 53), (15, 60)], [(8, 53), (16, 61)], [(17, 62)], [(18, 63)], [(18, 63), (19, 64)], [(18, 63)], [(18, 63), (21, 66)], [(18, 63)], [(18, 63)], [(18, 63)], [(18, 63), (20, 65), (22, 67), (23, 68), (24, 69), (25, 70)], [(18, 63), (26, 71)], [(27, 72)], [(27, 72), (28, 73)], [(27, 72)], [(27, 72), (29, 74), (30, 75)], [(27, 72)], [(27, 72), (32, 77)], [(27, 72), (31, 76), (33, 78)], [(27, 72), (34, 79)], [(18, 63), (27, 72), (35, 80)], [(18, 63), (36, 81)]]) [(3, .pointer (some ⟨g3, 0, none⟩)), (1, .int .u32 ((s : Int))), (10, .slice A1 a c1), (12, .int .i64 ((dn : Int))), (7, .pointer (some ⟨g7, 0, none⟩)), (11, .slice D1 bn d1)] [EV (.pointer (some ⟨g3, 0, none⟩)), EV (.int .i64 ((nn : Int))), EV (.pointer (some ⟨g3, 1, none⟩)), EV (.slice AE len ce), EV (.int .u32 ((s : Int))), EV (.slice A1 a c1), EV (.int .i64 ((dn : Int))), EV (.bool false), EV (.bool false), EV (undef), EV (undef), EV (undef), EV (undef), EV (undef), EV (undef), EV (undef), EV (undef), EV (.bool false), EV (.bool false), EV (.pointer (some ⟨g3, 0, none⟩)), EV (.int .i64 ((nn : Int))), EV (.pointer (some ⟨g3, 1, none⟩)), EV (.slice AE len ce), EV (.int .u32 ((s : Int))), EV (.slice D1 bn d1), EV (.int .i64 ((dn : Int))), EV (.bool true), EV (.bool true), EV (.slice D1 bn d1), EV (.int .i64 ((isum (inth ys) bn))), EV (.int .i64 ((dn : Int))), Rv (2) (((isum (inth ys) bn : Int) : Rat) / ((dn : Int) : Rat)), EV (.pointer (some ⟨g7, 2, none⟩)), Rw (60) (q), EV (.int .i64 (rcq (((isum (inth ys) bn : Int) : Rat) / ((dn : Int) : Rat)) q)), EV (.bool false), EV (.bool false), EV (.bool false)] (by kernel_rfl) (by kernel_rfl) ⟨rfl, rfl, rfl, rfl, rfl, rfl, trivial⟩ ?_ ?_ ?_
      · exact ⟨eI, eI, eI, eI, eI, eI, eI, eI, eI, eI, eI, eI, eI, eI, eI, eI, eI, eI, eI, eI, eI, eI, eI, eI, eI, eI, eI, eI, eI, eI, eI, fun _ _ _ h hb => h.new hb, eI, fun _ _ _ h hb => h.new hb, eI, eI, eI, eI, trivial⟩
      · refine ⟨?_, ?_, ?_, ?_, ?_, ?_, ?_, ?_, ?_, ?_, ?_, ?_, ?_, ?_, ?_, ?_, ?_, ?_, ?_, ?_, ?_, ?_, ?_, ?_, ?_, ?_, ?_, ?_, ?_, ?_, ?_, ?_, ?_, ?_, ?_, ?_, ?_, ?_, trivial⟩
        · exact fun aa ww hb he hd => ob_plain rfl (fld_hgr (k := 0) rfl (by decide) he.1)
        · exact fun aa ww hb he hd => ob_plain rfl (load_c3 rfl hd.1 (Blk.at0 HG.out hb))
        · exact fun aa ww hb he hd => ob_plain rfl (fld_hgr (k := 1) rfl (by decide) he.1)
        · exact fun aa ww hb he hd => ob_plain rfl (load_c38 rfl hd.1 (Blk.at1 HG.out hb))
        · exact fun _ _ _ he hd => ob_mv rfl rfl he.2.1
        · exact fun _ _ _ he hd => ob_mv rfl rfl he.2.2.1
        · exact fun _ _ _ he hd => ob_mv rfl rfl he.2.2.2.1
        · exact fun aa ww hb he hd => ob_plain rfl (gives_call5 _ _ _ _ _ _ _ rfl (by kernel_rfl) (by rw [show aa.eval (.tmp 46) = _ from hd.1, show aa.eval (.tmp 48) = _ from hd.2.1, show aa.eval (.tmp 49) = _ from hd.2.2.1, show aa.eval (.tmp 50) = _ from hd.2.2.2.1, show aa.eval (.tmp 51) = _ from hd.2.2.2.2.1]; exact rvb_f (covers9_any nn len a s dn ce c1 AE A1 es xs _ ((HE0.out.below (bthen HB.out hb HB.out.size)).more (bthen HB.out hb HB.out.size).size) (HX1.out.new hb) HS32.out HN6.out (by have := HL7.out; have := HLn.out; omega) (by have := HDn.out; omega) HXb.out) HCv.out))
        · exact fun _ _ _ he hd => ob_mv rfl rfl hd.1
        · exact fun aa ww hb he hd => ob_off 53 rfl (by kernel_rfl) hd.1 rfl
        · exact fun aa ww hb he hd => ob_off 53 rfl (by kernel_rfl) hd.1 rfl
        · exact fun aa ww hb he hd => ob_off 53 rfl (by kernel_rfl) hd.1 rfl
        · exact fun aa ww hb he hd => ob_off 53 rfl (by kernel_rfl) hd.1 rfl
        · exact fun aa ww hb he hd => ob_off 53 rfl (by kernel_rfl) hd.1 rfl
        · exact fun aa ww hb he hd => ob_off 53 rfl (by kernel_rfl) hd.1 rfl
        · exact fun aa ww hb he hd => ob_off 53 rfl (by kernel_rfl) hd.1 rfl
        · exact fun aa ww hb he hd => ob_off 53 rfl (by kernel_rfl) hd.1 rfl
        · exact fun aa ww hb he hd => ob_plain rfl (gives_pick false _ _ _ rfl hd.1 ⟨rfl, Below.refl _ _⟩)
        · exact fun _ _ _ he hd => ob_mv rfl rfl hd.1
        · exact fun aa ww hb he hd => ob_on 63 rfl (by kernel_rfl) hd.1 (fld_hgr (k := 0) rfl (by decide) he.1)
        · exact fun aa ww hb he hd => ob_on 63 rfl (by kernel_rfl) hd.1 (load_c3 rfl hd.2.1 (Blk.at0 HG.out hb))
        · exact fun aa ww hb he hd => ob_on 63 rfl (by kernel_rfl) hd.1 (fld_hgr (k := 1) rfl (by decide) he.1)
        · exact fun aa ww hb he hd => ob_on 63 rfl (by kernel_rfl) hd.1 (load_c38 rfl hd.2.1 (Blk.at1 HG.out hb))
        · exact fun aa ww hb he hd => ob_on 63 rfl (by kernel_rfl) hd.1 (gives_move _ rfl ⟨he.2.1, Below.refl _ _⟩)
        · exact fun aa ww hb he hd => ob_on 63 rfl (by kernel_rfl) hd.1 (gives_move _ rfl ⟨he.2.2.2.2.2.1, Below.refl _ _⟩)
        · exact fun aa ww hb he hd => ob_on 63 rfl (by kernel_rfl) hd.1 (gives_move _ rfl ⟨he.2.2.2.1, Below.refl _ _⟩)
        · exact fun aa ww hb he hd => ob_on 63 rfl (by kernel_rfl) hd.1 (gives_call5 _ _ _ _ _ _ _ rfl (by kernel_rfl) (by rw [show aa.eval (.tmp 65) = _ from hd.2.1, show aa.eval (.tmp 67) = _ from hd.2.2.1, show aa.eval (.tmp 68) = _ from hd.2.2.2.1, show aa.eval (.tmp 69) = _ from hd.2.2.2.2.1, show aa.eval (.tmp 70) = _ from hd.2.2.2.2.2.1]; exact rvb_t (packs9_any nn len bn s dn ce d1 AE D1 es ys _ ((HE0.out.below (bthen HB.out hb HB.out.size)).more (bthen HB.out hb HB.out.size).size) (HY1.out.new hb) HS32.out HN6.out (by have := HL7.out; have := HLn.out; omega) (by have := HDn.out; omega) HYb.out) HPk.out))
        · exact fun aa ww hb he hd => ob_on 63 rfl (by kernel_rfl) hd.1 (gives_move _ rfl ⟨hd.2.1, Below.refl _ _⟩)
        · exact fun aa ww hb he hd => ob_on 72 rfl (by kernel_rfl) hd.1 (gives_move _ rfl ⟨he.2.2.2.2.2.1, Below.refl _ _⟩)
        · exact fun aa ww hb he hd => ob_on 72 rfl (by kernel_rfl) hd.1 (gives_call1 _ _ _ rfl (by kernel_rfl) (by rw [show aa.eval (.tmp 73) = _ from hd.2.1]; exact rv_sum9 (HY1.out.new hb) (by have := HLn.out; omega) HYb.out))
        · exact fun aa ww hb he hd => ob_on 72 rfl (by kernel_rfl) hd.1 (gives_move _ rfl ⟨he.2.2.2.1, Below.refl _ _⟩)
        · exact fun aa ww hb he hd => ob_on 72 rfl (by kernel_rfl) hd.1 (gives_call2 _ _ _ _ rfl (by kernel_rfl) (by rw [show aa.eval (.tmp 74) = _ from hd.2.1, show aa.eval (.tmp 75) = _ from hd.2.2.1]; exact of29_any (isum (inth ys) bn) (dn : Int) (by have := HI2.out; have := HLn.out; omega) (by have := HDn.out; omega) (by have := HDn.out; omega) _))
        · exact fun aa ww hb he hd => ob_on 72 rfl (by kernel_rfl) hd.1 (fld_cov (k := 2) rfl (by decide) he.2.2.2.2.1)
        · exact fun aa ww hb he hd => ob_on 72 rfl (by kernel_rfl) hd.1 (load_cvv rfl hd.2.1 (Blk.keep HCo.out hb) (Rw.new HVq.out hb))
        · exact fun aa ww hb he hd => ob_on 72 rfl (by kernel_rfl) hd.1 (gives_call2 _ _ _ _ rfl (by kernel_rfl) (cmp_v (hd.2.1.rw) (hd.2.2.1) (by omega)))
        · exact fun aa ww hb he hd => ob_on 72 rfl (by kernel_rfl) hd.1 (gives_gt_int (rcq (((isum (inth ys) bn : Int) : Rat) / ((dn : Int) : Rat)) q) 0 .i64 _ _ _ _ rfl hd.2.1 rfl ⟨congrArg Value.bool (rcq_gt9 HLe2.out), Below.refl _ _⟩)
        · exact fun aa ww hb he hd => ob_on 63 rfl (by kernel_rfl) hd.1 (gives_pick true _ _ _ rfl hd.2.1 ⟨hd.2.2.1, Below.refl _ _⟩)
        · exact fun aa ww hb he hd => ob_plain rfl (gives_pick false _ _ _ rfl hd.1 ⟨hd.2.1, Below.refl _ _⟩)
      intro vs w7 hb hR
      have e82 : vs 37 = .bool false := hR 37 (by decide)
      clear hR
      simp only [putsL, Nat.zero_add, Nat.reduceAdd, List.take_succ_cons, List.take_zero, Act.put, List.setIfInBounds_toArray, List.set_cons_zero, List.set_cons_succ]
      rw [e82]
      clear e82
      replace HB := Lib.hid (bthen HB.out hb HB.out.size)
      replace HG := Lib.hid (HG.out.keep hb)
      replace HU := Lib.hid (HU.out.keep hb)
      replace HCo := Lib.hid (HCo.out.keep hb)
      replace HVq := Lib.hid (HVq.out.new hb)
      replace HX1 := Lib.hid (HX1.out.new hb)
      replace HY1 := Lib.hid (HY1.out.new hb)
      clear hb
      have x0 := Blk.at0 HG.out (Below.refl _ _); have x1 := Blk.at1 HG.out (Below.refl _ _)
      go_wp2_with fail
      refine (inside_ok nn s AE es len ce w7 ((HE0.out.below HB.out).more HB.out.size) HCc.out HS32.out).mono ?_
      rintro e w8 ⟨rfl, hb⟩
      clear x0 x1
      obtain ⟨ib, hib⟩ : ∃ ib, ib = es.any (holdsB s) := ⟨_, rfl⟩
      rw [← hib]
      have HIb := Lib.hid hib; clear hib
      replace HB := Lib.hid (bthen HB.out hb HB.out.size)
      replace HG := Lib.hid (HG.out.keep hb)
      replace HU := Lib.hid (HU.out.keep hb)
      replace HCo := Lib.hid (HCo.out.keep hb)
      replace HVq := Lib.hid (HVq.out.new hb)
      replace HX1 := Lib.hid (HX1.out.new hb)
      replace HY1 := Lib.hid (HY1.out.new hb)
      clear hb
      go_upto_region 10 with (fail)
      refine wp_region_each (kss := [[], [(0, 89)], [], [(1, 90), (2, 91)], [(3, 92)], [(4, 93)]]) [(7, .pointer (some ⟨g7, 0, none⟩))] [EV (.pointer (some ⟨g7, 2, none⟩)), Rw (60) (q), Rv (2) (((1 : Int) : Rat)), EV (.int .i64 (rcq q (((1 : Int) : Rat)))), EV (.bool (decide (q = 1))), EV (.bool (decide (q = 1)))] (by kernel_rfl) (by kernel_rfl) ⟨rfl, trivial⟩ ?_ ?_ ?_
      · exact ⟨eI, fun _ _ _ h hb => h.new hb, fun _ _ _ h hb => h.new hb, eI, eI, eI, trivial⟩
      · refine ⟨?_, ?_, ?_, ?_, ?_, ?_, trivial⟩
        · exact fun aa ww hb he hd => ob_plain rfl (fld_cov (k := 2) rfl (by decide) he.1)
        · exact fun aa ww hb he hd => ob_plain rfl (load_cvv rfl hd.1 (Blk.keep HCo.out hb) (Rw.new HVq.out hb))
        · exact fun aa ww hb he hd => ob_plain rfl (gives_call1 _ _ _ rfl (by kernel_rfl) (int_w (1) (by omega) (by omega) _ rfl _))
        · exact fun aa ww hb he hd => ob_plain rfl (gives_call2 _ _ _ _ rfl (by kernel_rfl) (cmp_v (hd.1) (hd.2.1.rw) (by omega)))
        · exact fun aa ww hb he hd => ob_plain rfl (gives_eq_int (rcq q (((1 : Int) : Rat))) 0 .i64 _ _ _ _ rfl hd.1 rfl ⟨congrArg Value.bool (rcq_eq9), Below.refl _ _⟩)
        · exact fun aa ww hb he hd => ob_plain rfl (gives_assign _ rfl ⟨hd.1, Below.refl _ _⟩)
      intro vs w9 hb hR
      have e15 : vs 5 = .bool (decide (q = 1)) := hR 5 (by decide)
      clear hR
      simp only [putsL, Nat.zero_add, Nat.reduceAdd, List.take_succ_cons, List.take_zero, Act.put, List.setIfInBounds_toArray, List.set_cons_zero, List.set_cons_succ]
      rw [e15]
      clear e15
      replace HB := Lib.hid (bthen HB.out hb HB.out.size)
      replace HG := Lib.hid (HG.out.keep hb)
      replace HU := Lib.hid (HU.out.keep hb)
      replace HCo := Lib.hid (HCo.out.keep hb)
      replace HVq := Lib.hid (HVq.out.new hb)
      replace HX1 := Lib.hid (HX1.out.new hb)
      replace HY1 := Lib.hid (HY1.out.new hb)
      clear hb
      have h1 := HOk.out.one_iff (fun x hx => low_bits (by have := HN6.out; omega) HS32.out HRa.out hx)
      have h0 := HOk.out.zero_iff (fun x hx => low_bits (by have := HN6.out; omega) HS32.out HRa.out hx)
      have hany := any_holds (len := len) HE0.out.len HS32.out HE0.out.2.2
      by_cases hs0 : s = 0
      · skip
        have hq1 : decide (q = 1) = false := by rw [decide_eq_false_iff_not]; intro h; exact (h1.1 h).1 hs0
        have hq0 : q = 0 := h0.2 hs0
        rw [hq1]
        subst hs0
        subst hq0
        clear h1 h0 hany hq1
        have c2 := Blk.at2 HCo.out (Below.refl _ _); have c3 := Blk.at3 HCo.out (Below.refl _ _); have c4 := Blk.at4 HCo.out (Below.refl _ _)
        go_wp2_with fail
        refine (sign_v HVq.out).mono ?_
        rintro e wA ⟨v, rfl, rfl, hb⟩
        have e0 : (0 : Rat).num.sign = 0 := rfl
        rw [e0]
        replace HB := Lib.hid (bthen HB.out hb HB.out.size)
        clear hb
        go_wp2_with fail
        refine (awake29_any _).mono ?_
        rintro e wB ⟨rfl, hb⟩
        go_wp2_with fail
        go_ret
        exact ⟨rfl, bthen HB.out hb HB.out.size⟩
      have hq1 : decide (q = 1) = ib := by
        cases hb9 : ib with
        | false => rw [decide_eq_false_iff_not]; intro h; have := hany.2 (h1.1 h).2; rw [← HIb.out, hb9] at this; exact absurd this (by decide)
        | true => rw [decide_eq_true_iff]; exact h1.2 ⟨hs0, hany.1 (by rw [← HIb.out, hb9])⟩
      have hq0 : ¬ q = 0 := fun h => hs0 (h0.1 h)
      have hsg : (q.num.sign == 0) = false := sign_eq9.trans (decide_eq_false hq0)
      have t9 : (((s : Nat) : Int) != 0) = true := by simp; omega
      have t8 : (((s : Nat) : Int) == 0) = false := by simp; omega
      rw [hq1]
      clear h1 h0 hany hq1 hq0
      have c2 := Blk.at2 HCo.out (Below.refl _ _); have c3 := Blk.at3 HCo.out (Below.refl _ _); have c4 := Blk.at4 HCo.out (Below.refl _ _)
      have hib2 : (ib == ib) = true := by cases ib <;> rfl
      go_wp2_with fail
      refine (sign_v HVq.out).mono ?_
      rintro e wA ⟨v, rfl, rfl, hb⟩
      replace HB := Lib.hid (bthen HB.out hb HB.out.size)
      clear hb
      go_wp2_with fail
      refine (awake29_any _).mono ?_
      rintro e wB ⟨rfl, hb⟩
      go_wp2_with fail
      go_ret
      exact ⟨rfl, bthen HB.out hb HB.out.size⟩
    have HPk := Lib.hid hpk; clear hpk
    refine wp_region_each (kss := [[], [(0, 45)], [], [(2, 47)], [], [], [], [(1, 46), (3, 48), (4, 49), (5, 50), (6, 51)], [(7, 52)], [(8, 53)], [(8, 53), (9, 54)], [(8, 53)], [(8, 53), (10, 55), (11, 56)], [(8, 53)], [(8, 53), (13, 58)], [(8, 53), (12, 57), (14, 59)], [(8, 53), (15, 60)], [(8, 53), (16, 61)], [(17, 62)], [(18, 63)], [(18, 63), (19, 64)], [(18, 63)], [(18, 63), (21, 66)], [(18, 63)], [(18, 63)], [(18, 63)], [(18, 63), (20, 65), (22, 67), (23, 68), (24, 69), (25, 70)], [(18, 63), (26, 71)], [(27, 72)], [(27, 72), (28, 73)], [(27, 72)], [(27, 72), (29, 74), (30, 75)], [(27, 72)], [(27, 72), (32, 77)], [(27, 72), (31, 76), (33, 78)], [(27, 72), (34, 79)], [(18, 63), (27, 72), (35, 80)], [(18, 63), (36, 81)]]) [(3, .pointer (some ⟨g3, 0, none⟩)), (1, .int .u32 ((s : Int))), (10, .slice A1 a c1), (12, .int .i64 ((dn : Int))), (7, .pointer (some ⟨g7, 0, none⟩)), (11, .slice D1 bn d1)] [EV (.pointer (some ⟨g3, 0, none⟩)), EV (.int .i64 ((nn : Int))), EV (.pointer (some ⟨g3, 1, none⟩)), EV (.slice AE len ce), EV (.int .u32 ((s : Int))), EV (.slice A1 a c1), EV (.int .i64 ((dn : Int))), EV (.bool false), EV (.bool false), EV (undef), EV (undef), EV (undef), EV (undef), EV (undef), EV (undef), EV (undef), EV (undef), EV (.bool false), EV (.bool false), EV (.pointer (some ⟨g3, 0, none⟩)), EV (.int .i64 ((nn : Int))), EV (.pointer (some ⟨g3, 1, none⟩)), EV (.slice AE len ce), EV (.int .u32 ((s : Int))), EV (.slice D1 bn d1), EV (.int .i64 ((dn : Int))), EV (.bool false), EV (.bool false), EV (undef), EV (undef), EV (undef), EV (undef), EV (undef), EV (undef), EV (undef), EV (undef), EV (.bool false), EV (.bool false)] (by kernel_rfl) (by kernel_rfl) ⟨rfl, rfl, rfl, rfl, rfl, rfl, trivial⟩ ?_ ?_ ?_
    · exact ⟨eI, eI, eI, eI, eI, eI, eI, eI, eI, eI, eI, eI, eI, eI, eI, eI, eI, eI, eI, eI, eI, eI, eI, eI, eI, eI, eI, eI, eI, eI, eI, eI, eI, eI, eI, eI, eI, eI, trivial⟩
    · refine ⟨?_, ?_, ?_, ?_, ?_, ?_, ?_, ?_, ?_, ?_, ?_, ?_, ?_, ?_, ?_, ?_, ?_, ?_, ?_, ?_, ?_, ?_, ?_, ?_, ?_, ?_, ?_, ?_, ?_, ?_, ?_, ?_, ?_, ?_, ?_, ?_, ?_, ?_, trivial⟩
      · exact fun aa ww hb he hd => ob_plain rfl (fld_hgr (k := 0) rfl (by decide) he.1)
      · exact fun aa ww hb he hd => ob_plain rfl (load_c3 rfl hd.1 (Blk.at0 HG.out hb))
      · exact fun aa ww hb he hd => ob_plain rfl (fld_hgr (k := 1) rfl (by decide) he.1)
      · exact fun aa ww hb he hd => ob_plain rfl (load_c38 rfl hd.1 (Blk.at1 HG.out hb))
      · exact fun _ _ _ he hd => ob_mv rfl rfl he.2.1
      · exact fun _ _ _ he hd => ob_mv rfl rfl he.2.2.1
      · exact fun _ _ _ he hd => ob_mv rfl rfl he.2.2.2.1
      · exact fun aa ww hb he hd => ob_plain rfl (gives_call5 _ _ _ _ _ _ _ rfl (by kernel_rfl) (by rw [show aa.eval (.tmp 46) = _ from hd.1, show aa.eval (.tmp 48) = _ from hd.2.1, show aa.eval (.tmp 49) = _ from hd.2.2.1, show aa.eval (.tmp 50) = _ from hd.2.2.2.1, show aa.eval (.tmp 51) = _ from hd.2.2.2.2.1]; exact rvb_f (covers9_any nn len a s dn ce c1 AE A1 es xs _ ((HE0.out.below (bthen HB.out hb HB.out.size)).more (bthen HB.out hb HB.out.size).size) (HX1.out.new hb) HS32.out HN6.out (by have := HL7.out; have := HLn.out; omega) (by have := HDn.out; omega) HXb.out) HCv.out))
      · exact fun _ _ _ he hd => ob_mv rfl rfl hd.1
      · exact fun aa ww hb he hd => ob_off 53 rfl (by kernel_rfl) hd.1 rfl
      · exact fun aa ww hb he hd => ob_off 53 rfl (by kernel_rfl) hd.1 rfl
      · exact fun aa ww hb he hd => ob_off 53 rfl (by kernel_rfl) hd.1 rfl
      · exact fun aa ww hb he hd => ob_off 53 rfl (by kernel_rfl) hd.1 rfl
      · exact fun aa ww hb he hd => ob_off 53 rfl (by kernel_rfl) hd.1 rfl
      · exact fun aa ww hb he hd => ob_off 53 rfl (by kernel_rfl) hd.1 rfl
      · exact fun aa ww hb he hd => ob_off 53 rfl (by kernel_rfl) hd.1 rfl
      · exact fun aa ww hb he hd => ob_off 53 rfl (by kernel_rfl) hd.1 rfl
      · exact fun aa ww hb he hd => ob_plain rfl (gives_pick false _ _ _ rfl hd.1 ⟨rfl, Below.refl _ _⟩)
      · exact fun _ _ _ he hd => ob_mv rfl rfl hd.1
      · exact fun aa ww hb he hd => ob_on 63 rfl (by kernel_rfl) hd.1 (fld_hgr (k := 0) rfl (by decide) he.1)
      · exact fun aa ww hb he hd => ob_on 63 rfl (by kernel_rfl) hd.1 (load_c3 rfl hd.2.1 (Blk.at0 HG.out hb))
      · exact fun aa ww hb he hd => ob_on 63 rfl (by kernel_rfl) hd.1 (fld_hgr (k := 1) rfl (by decide) he.1)
      · exact fun aa ww hb he hd => ob_on 63 rfl (by kernel_rfl) hd.1 (load_c38 rfl hd.2.1 (Blk.at1 HG.out hb))
      · exact fun aa ww hb he hd => ob_on 63 rfl (by kernel_rfl) hd.1 (gives_move _ rfl ⟨he.2.1, Below.refl _ _⟩)
      · exact fun aa ww hb he hd => ob_on 63 rfl (by kernel_rfl) hd.1 (gives_move _ rfl ⟨he.2.2.2.2.2.1, Below.refl _ _⟩)
      · exact fun aa ww hb he hd => ob_on 63 rfl (by kernel_rfl) hd.1 (gives_move _ rfl ⟨he.2.2.2.1, Below.refl _ _⟩)
      · exact fun aa ww hb he hd => ob_on 63 rfl (by kernel_rfl) hd.1 (gives_call5 _ _ _ _ _ _ _ rfl (by kernel_rfl) (by rw [show aa.eval (.tmp 65) = _ from hd.2.1, show aa.eval (.tmp 67) = _ from hd.2.2.1, show aa.eval (.tmp 68) = _ from hd.2.2.2.1, show aa.eval (.tmp 69) = _ from hd.2.2.2.2.1, show aa.eval (.tmp 70) = _ from hd.2.2.2.2.2.1]; exact rvb_f (packs9_any nn len bn s dn ce d1 AE D1 es ys _ ((HE0.out.below (bthen HB.out hb HB.out.size)).more (bthen HB.out hb HB.out.size).size) (HY1.out.new hb) HS32.out HN6.out (by have := HL7.out; have := HLn.out; omega) (by have := HDn.out; omega) HYb.out) HPk.out))
      · exact fun aa ww hb he hd => ob_on 63 rfl (by kernel_rfl) hd.1 (gives_move _ rfl ⟨hd.2.1, Below.refl _ _⟩)
      · exact fun aa ww hb he hd => ob_off 72 rfl (by kernel_rfl) hd.1 rfl
      · exact fun aa ww hb he hd => ob_off 72 rfl (by kernel_rfl) hd.1 rfl
      · exact fun aa ww hb he hd => ob_off 72 rfl (by kernel_rfl) hd.1 rfl
      · exact fun aa ww hb he hd => ob_off 72 rfl (by kernel_rfl) hd.1 rfl
      · exact fun aa ww hb he hd => ob_off 72 rfl (by kernel_rfl) hd.1 rfl
      · exact fun aa ww hb he hd => ob_off 72 rfl (by kernel_rfl) hd.1 rfl
      · exact fun aa ww hb he hd => ob_off 72 rfl (by kernel_rfl) hd.1 rfl
      · exact fun aa ww hb he hd => ob_off 72 rfl (by kernel_rfl) hd.1 rfl
      · exact fun aa ww hb he hd => ob_on 63 rfl (by kernel_rfl) hd.1 (gives_pick false _ _ _ rfl hd.2.1 ⟨rfl, Below.refl _ _⟩)
      · exact fun aa ww hb he hd => ob_plain rfl (gives_pick false _ _ _ rfl hd.1 ⟨hd.2.1, Below.refl _ _⟩)
    intro vs w7 hb hR
    have e82 : vs 37 = .bool false := hR 37 (by decide)
    clear hR
    simp only [putsL, Nat.zero_add, Nat.reduceAdd, List.take_succ_cons, List.take_zero, Act.put, List.setIfInBounds_toArray, List.set_cons_zero, List.set_cons_succ]
    rw [e82]
    clear e82
    replace HB := Lib.hid (bthen HB.out hb HB.out.size)
    replace HG := Lib.hid (HG.out.keep hb)
    replace HU := Lib.hid (HU.out.keep hb)
    replace HCo := Lib.hid (HCo.out.keep hb)
    replace HVq := Lib.hid (HVq.out.new hb)
    replace HX1 := Lib.hid (HX1.out.new hb)
    replace HY1 := Lib.hid (HY1.out.new hb)
    clear hb
    have x0 := Blk.at0 HG.out (Below.refl _ _); have x1 := Blk.at1 HG.out (Below.refl _ _)
    go_wp2_with fail
    refine (inside_ok nn s AE es len ce w7 ((HE0.out.below HB.out).more HB.out.size) HCc.out HS32.out).mono ?_
    rintro e w8 ⟨rfl, hb⟩
    clear x0 x1
    obtain ⟨ib, hib⟩ : ∃ ib, ib = es.any (holdsB s) := ⟨_, rfl⟩
    rw [← hib]
    have HIb := Lib.hid hib; clear hib
    replace HB := Lib.hid (bthen HB.out hb HB.out.size)
    replace HG := Lib.hid (HG.out.keep hb)
    replace HU := Lib.hid (HU.out.keep hb)
    replace HCo := Lib.hid (HCo.out.keep hb)
    replace HVq := Lib.hid (HVq.out.new hb)
    replace HX1 := Lib.hid (HX1.out.new hb)
    replace HY1 := Lib.hid (HY1.out.new hb)
    clear hb
    go_upto_region 10 with (fail)
    refine wp_region_each (kss := [[], [(0, 89)], [], [(1, 90), (2, 91)], [(3, 92)], [(4, 93)]]) [(7, .pointer (some ⟨g7, 0, none⟩))] [EV (.pointer (some ⟨g7, 2, none⟩)), Rw (60) (q), Rv (2) (((1 : Int) : Rat)), EV (.int .i64 (rcq q (((1 : Int) : Rat)))), EV (.bool (decide (q = 1))), EV (.bool (decide (q = 1)))] (by kernel_rfl) (by kernel_rfl) ⟨rfl, trivial⟩ ?_ ?_ ?_
    · exact ⟨eI, fun _ _ _ h hb => h.new hb, fun _ _ _ h hb => h.new hb, eI, eI, eI, trivial⟩
    · refine ⟨?_, ?_, ?_, ?_, ?_, ?_, trivial⟩
      · exact fun aa ww hb he hd => ob_plain rfl (fld_cov (k := 2) rfl (by decide) he.1)
      · exact fun aa ww hb he hd => ob_plain rfl (load_cvv rfl hd.1 (Blk.keep HCo.out hb) (Rw.new HVq.out hb))
      · exact fun aa ww hb he hd => ob_plain rfl (gives_call1 _ _ _ rfl (by kernel_rfl) (int_w (1) (by omega) (by omega) _ rfl _))
      · exact fun aa ww hb he hd => ob_plain rfl (gives_call2 _ _ _ _ rfl (by kernel_rfl) (cmp_v (hd.1) (hd.2.1.rw) (by omega)))
      · exact fun aa ww hb he hd => ob_plain rfl (gives_eq_int (rcq q (((1 : Int) : Rat))) 0 .i64 _ _ _ _ rfl hd.1 rfl ⟨congrArg Value.bool (rcq_eq9), Below.refl _ _⟩)
      · exact fun aa ww hb he hd => ob_plain rfl (gives_assign _ rfl ⟨hd.1, Below.refl _ _⟩)
    intro vs w9 hb hR
    have e15 : vs 5 = .bool (decide (q = 1)) := hR 5 (by decide)
    clear hR
    simp only [putsL, Nat.zero_add, Nat.reduceAdd, List.take_succ_cons, List.take_zero, Act.put, List.setIfInBounds_toArray, List.set_cons_zero, List.set_cons_succ]
    rw [e15]
    clear e15
    replace HB := Lib.hid (bthen HB.out hb HB.out.size)
    replace HG := Lib.hid (HG.out.keep hb)
    replace HU := Lib.hid (HU.out.keep hb)
    replace HCo := Lib.hid (HCo.out.keep hb)
    replace HVq := Lib.hid (HVq.out.new hb)
    replace HX1 := Lib.hid (HX1.out.new hb)
    replace HY1 := Lib.hid (HY1.out.new hb)
    clear hb
    have h1 := HOk.out.one_iff (fun x hx => low_bits (by have := HN6.out; omega) HS32.out HRa.out hx)
    have h0 := HOk.out.zero_iff (fun x hx => low_bits (by have := HN6.out; omega) HS32.out HRa.out hx)
    have hany := any_holds (len := len) HE0.out.len HS32.out HE0.out.2.2
    by_cases hs0 : s = 0
    · skip
      have hq1 : decide (q = 1) = false := by rw [decide_eq_false_iff_not]; intro h; exact (h1.1 h).1 hs0
      have hq0 : q = 0 := h0.2 hs0
      rw [hq1]
      subst hs0
      subst hq0
      clear h1 h0 hany hq1
      have c2 := Blk.at2 HCo.out (Below.refl _ _); have c3 := Blk.at3 HCo.out (Below.refl _ _); have c4 := Blk.at4 HCo.out (Below.refl _ _)
      go_wp2_with fail
      refine (sign_v HVq.out).mono ?_
      rintro e wA ⟨v, rfl, rfl, hb⟩
      have e0 : (0 : Rat).num.sign = 0 := rfl
      rw [e0]
      replace HB := Lib.hid (bthen HB.out hb HB.out.size)
      clear hb
      go_wp2_with fail
      refine (awake29_any _).mono ?_
      rintro e wB ⟨rfl, hb⟩
      go_wp2_with fail
      go_ret
      exact ⟨rfl, bthen HB.out hb HB.out.size⟩
    have hq1 : decide (q = 1) = ib := by
      cases hb9 : ib with
      | false => rw [decide_eq_false_iff_not]; intro h; have := hany.2 (h1.1 h).2; rw [← HIb.out, hb9] at this; exact absurd this (by decide)
      | true => rw [decide_eq_true_iff]; exact h1.2 ⟨hs0, hany.1 (by rw [← HIb.out, hb9])⟩
    have hq0 : ¬ q = 0 := fun h => hs0 (h0.1 h)
    have hsg : (q.num.sign == 0) = false := sign_eq9.trans (decide_eq_false hq0)
    have t9 : (((s : Nat) : Int) != 0) = true := by simp; omega
    have t8 : (((s : Nat) : Int) == 0) = false := by simp; omega
    rw [hq1]
    clear h1 h0 hany hq1 hq0
    have c2 := Blk.at2 HCo.out (Below.refl _ _); have c3 := Blk.at3 HCo.out (Below.refl _ _); have c4 := Blk.at4 HCo.out (Below.refl _ _)
    have hib2 : (ib == ib) = true := by cases ib <;> rfl
    go_wp2_with fail
    refine (sign_v HVq.out).mono ?_
    rintro e wA ⟨v, rfl, rfl, hb⟩
    replace HB := Lib.hid (bthen HB.out hb HB.out.size)
    clear hb
    go_wp2_with fail
    refine (awake29_any _).mono ?_
    rintro e wB ⟨rfl, hb⟩
    go_wp2_with fail
    go_ret
    exact ⟨rfl, bthen HB.out hb HB.out.size⟩
theorem coverLeast_walk (n : Int) (AE : Option Addr) (es : List Nat) (len ce : Nat) (x : Int) (D a bn ca cb : Nat) (AX AY : Option Addr) (xs ys : List Int) (vN : Int) (w : World) (hE : Es w w.heap.size AE len es) (wn : -9223372036854775808 ≤ n ∧ n ≤ 9223372036854775807) (hcap : len ≤ ce) (wx : 0 ≤ x ∧ x ≤ 4294967295) (hD : D ≤ 255) (hX : Ks .i8 128 w w.heap.size AX a xs) (hY : Ks .i8 128 w w.heap.size AY bn ys) (hv : -128 ≤ vN ∧ vN < 128) (ha : a ≤ 1048576) (hb : bn ≤ 1048576) :
    Calls Try.prog 6 #[.agg #[.int .i64 n, .slice AE len ce], .int .u32 x, .agg #[.int .u8 (D : Int), .slice AX a ca, .slice AY bn cb, .int .i8 vN]] w fun e w' => e = .returned (.bool true) ∧ Below w.heap.size w w' := by
  obtain ⟨s, rfl⟩ : ∃ s : Nat, x = (s : Int) := ⟨x.toNat, by omega⟩
  exact least_any9 n len ce s D a bn ca cb AE AX AY es xs ys vN w hE (by omega) hD hX hY hv ⟨ha, hb⟩
end Go.Proofs.Ytpnklmgfdihjfaa
