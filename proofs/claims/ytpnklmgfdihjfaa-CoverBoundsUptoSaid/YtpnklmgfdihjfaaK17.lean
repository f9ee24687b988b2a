/-
The walk of CoverBounds. Printed by gen/scv.py.
-/
import Derived.Test.YtpnklmgfdihjfaaK15
import Derived.Test.YtpnklmgfdihjfaaK16
namespace Go.Proofs.Ytpnklmgfdihjfaa
open Go.RowKit
set_option linter.unusedVariables false
set_option linter.unusedSimpArgs false

set_option maxRecDepth 100000 in
set_option maxHeartbeats 16000000 in
theorem bounds_any9 (D a bn ca cb l cz : Nat) (AX AY AZ : Option Addr) (xs ys zs : List Int) (vN : Int) (cnt : Nat) (w : World) (hD : D ≤ 255) (hX : Ks .i8 128 w w.heap.size AX a xs) (hY : Ks .i8 128 w w.heap.size AY bn ys) (hv : -128 ≤ vN ∧ vN < 128) (hab : a ≤ 1048576 ∧ bn ≤ 1048576) (hZ : Ks .i16 32768 w w.heap.size AZ l zs) (hct : cnt < 4294967296) :
    Calls Try.prog 4 #[.agg #[.int .u8 (D : Int), .slice AX a ca, .slice AY bn cb, .int .i8 vN], .slice AZ l cz, .int .u32 (cnt : Int)] w fun e w' => e = .returned (.bool true) ∧ Below w.heap.size w w' := by
  have HX0 := Lib.hid hX; have HY0 := Lib.hid hY; have HVn := Lib.hid hv; have HZ0 := Lib.hid hZ; have HAb := Lib.hid hab; have HCt := Lib.hid hct; clear hX hY hv hZ hab hct
  go_enter Try.func4, Try.ntmps4
  go_upto_region 1 with (fail)
  have hbw := al w (.cells #[.int .u8 (D : Int), .slice AX a ca, .slice AY bn cb, .int .i8 vN] 43)
  have HU := Lib.hid (Blk.new w 43 #[.int .u8 (D : Int), .slice AX a ca, .slice AY bn cb, .int .i8 vN])
  have HB := Lib.hid hbw
  clear hbw
  generalize w.alloc (.cells #[.int .u8 (D : Int), .slice AX a ca, .slice AY bn cb, .int .i8 vN] 43) = w1 at *
  obtain ⟨g3, hg3⟩ : ∃ g3, g3 = w.heap.size := ⟨_, rfl⟩
  rw [← hg3] at HU ⊢
  have HGg3 := Lib.hid (show w.heap.size ≤ g3 from by omega)
  clear hg3
  have y0 := Blk.at0 HU.out (Below.refl _ _); have y1 := Blk.at1 HU.out (Below.refl _ _); have y2 := Blk.at2 HU.out (Below.refl _ _); have y3 := Blk.at3 HU.out (Below.refl _ _)
  by_cases ha5 : (a : Int) > 5
  · skip
    go_wp2_with fail
    refine (awake29_any _).mono ?_
    rintro e w3 ⟨rfl, hb⟩
    go_wp2_with fail
    go_ret
    exact ⟨rfl, bthen HB.out hb HB.out.size⟩
  by_cases hl8 : (l : Int) > 8
  · skip
    go_wp2_with fail
    refine (awake29_any _).mono ?_
    rintro e w3 ⟨rfl, hb⟩
    go_wp2_with fail
    go_ret
    exact ⟨rfl, bthen HB.out hb HB.out.size⟩
  go_wp2_with fail
  refine (made_any D a bn ca cb AX AY xs ys vN w1 (HX0.out.below HB.out |>.more HB.out.size) (HY0.out.below HB.out |>.more HB.out.size) hD HVn.out (by have := HAb.out; omega)).mono ?_
  rintro e w2 ⟨v, rfl, ⟨A2, c2, D2, d2, s2, A5, k5, c5, B5, m5, d5, A1, c1, D1, d1, rfl, hw1, -, -, hx1, -⟩, hb⟩
  obtain ⟨dn, hdn⟩ : ∃ dn, dn = D % 6 + 1 := ⟨_, rfl⟩
  rw [← hdn] at hw1 ⊢
  have HDn := Lib.hid (show 0 < dn ∧ dn ≤ 6 by omega)
  clear hdn
  have HW1 := Lib.hid (show Rs w2 w2.heap.size A2 a (PW w2 2 (fun i => fr (inth xs i) dn)) from hw1); have HX1 := Lib.hid hx1; clear hw1 hx1
  replace HB := Lib.hid (bthen HB.out hb HB.out.size)
  replace HU := Lib.hid (HU.out.keep hb)
  clear hb
  clear y0 y1 y2 y3
  go_upto_region 4 with (fail)
  clear HU
  have hbw := bthen (al w2 (.cells #[.slice A2 a c2, .slice D2 bn d2, .bool s2, .slice A5 k5 c5, .slice B5 m5 d5] 33)) (al _ (.cells #[.int .i64 (dn : Int)] 3)) (by simp)
  have HC := Lib.hid ((Blk.new w2 33 #[.slice A2 a c2, .slice D2 bn d2, .bool s2, .slice A5 k5 c5, .slice B5 m5 d5]).keep (al _ (.cells #[.int .i64 (dn : Int)] 3)))
  have H10 := Lib.hid (Blk.new (w2.alloc (.cells #[.slice A2 a c2, .slice D2 bn d2, .bool s2, .slice A5 k5 c5, .slice B5 m5 d5] 33)) 3 #[.int .i64 (dn : Int)])
  rw [show (w2.alloc (.cells #[.slice A2 a c2, .slice D2 bn d2, .bool s2, .slice A5 k5 c5, .slice B5 m5 d5] 33)).heap.size = w2.heap.size + 1 from by simp] at H10
  replace HB := Lib.hid (bthen HB.out hbw HB.out.size)
  replace HW1 := Lib.hid (Rs.newW HW1.out hbw)
  replace HX1 := Lib.hid (HX1.out.new hbw)
  clear hbw
  generalize (w2.alloc (.cells #[.slice A2 a c2, .slice D2 bn d2, .bool s2, .slice A5 k5 c5, .slice B5 m5 d5] 33)).alloc (.cells #[.int .i64 (dn : Int)] 3) = w3 at *
  obtain ⟨g7, hg7⟩ : ∃ g7, g7 = w2.heap.size := ⟨_, rfl⟩
  obtain ⟨gx, hgx⟩ : ∃ gx, gx = w2.heap.size + 1 := ⟨_, rfl⟩
  rw [← hgx] at H10 ⊢
  rw [← hg7] at HC ⊢
  have HGg7 := Lib.hid (show w2.heap.size ≤ g7 ∧ w2.heap.size ≤ gx from by omega)
  clear hg7 hgx
  by_cases hla : l = a
  rotate_left
  · have tl : ((l : Int) != (a : Int)) = true := by simp; omega
    go_wp2_with fail
    refine (of_n 1 (by omega) _).mono ?_
    rintro e w4 ⟨AP, kp1, cp1, rfl, hp, -, hb⟩
    have HNp := Lib.hid hp; clear hp
    replace HB := Lib.hid (bthen HB.out hb HB.out.size)
    replace HW1 := Lib.hid (Rs.newW HW1.out hb)
    replace HX1 := Lib.hid (HX1.out.new hb)
    replace HC := Lib.hid (HC.out.keep hb)
    replace H10 := Lib.hid (H10.out.keep hb)
    clear hb
    obtain ⟨b0, hb0⟩ : ∃ b0, b0 = w4.heap.size := ⟨_, rfl⟩
    have hst : LpS w b0 g7 gx 3 #[.slice A2 a c2, .slice D2 bn d2, .bool s2, .slice A5 k5 c5, .slice B5 m5 d5] #[.int .i64 (dn : Int)] a A1 A2 xs (fun i => fr (inth xs i) dn) (.slice none 0 0) 0 (I64 (zs.take 0)) w4 := ⟨HC.out, H10.out, by rw [hb0]; exact HX1.out, by rw [hb0]; exact HW1.out, OwnC.nil _ _ _ _, HB.out, by have h1 := HC.out.lt; have h2 := H10.out.lt; have h3 := HB.out.size; omega, by omega⟩
    have HI := Lib.hid hst; have HNb := Lib.hid (show b0 = w4.heap.size from hb0)
    clear hst hb0
    go_wp2_with fail
    go_loopg [49, 11, 12] l (fun g iv lv zv wr => ∃ (i cl : Nat) (Al : Option Addr) (z : Int), iv = .int .i64 i ∧ lv = .slice Al i cl ∧ zv = .int .i64 z ∧ i + g = l ∧ z = 28 ∧ Hid (LpS w b0 g7 gx 3 #[.slice A2 a c2, .slice D2 bn d2, .bool s2, .slice A5 k5 c5, .slice B5 m5 d5] #[.int .i64 (dn : Int)] a A1 A2 xs (fun i => fr (inth xs i) dn) (.slice Al i cl) i (I64 (zs.take i)) wr ∧ Num wr AP kp1 cp1 2 1))
    case atStart => exact ⟨0, 0, none, _, rfl, rfl, rfl, by omega, rfl, Lib.hid ⟨HI.out, HNp.out⟩⟩
    case round =>
      obtain ⟨i, cl, Al, z, rfl, rfl, rfl, hil, hz9, HJ⟩ := hrel
      clear HI HNp HC H10 HW1 HX1 HB
      have HI := Lib.hid HJ.out.1; have HNp := Lib.hid HJ.out.2; clear HJ
      have HWz := Lib.hid hz9; clear hz9
      by_cases hi : i < l
      · have i1 : ((i : Int) < (l : Int)) := by omega
        go_upto_region 12 with (fail)
        replace HNp := Lib.hid HNp.out
        obtain ⟨adZ, hAz, hbZ, hcZ⟩ := (HZ0.out.below HI.out.hb).at_ hi
        have hzb := HZ0.out.lt hi
        obtain ⟨zi, hzi⟩ : ∃ zi, zi = inth zs i := ⟨_, rfl⟩
        rw [← hzi] at hcZ hzb
        have HZi := Lib.hid hzi; have HZb := Lib.hid hzb; clear hzi hzb
        subst hAz
        have hbk : (Addr.add adZ i).block < wr.heap.size := by rw [block_of_add]; exact Nat.lt_of_lt_of_le hbZ HI.out.hb.size
        refine wp_region_joins (kss := [[], [], [], [(1, 53), (2, 54)], [(3, 55)], [(4, 56)], [(5, 57)]]) [(11, .slice Al i cl), (1, .slice (some adZ) l cz), (14, .int .i64 ((i : Int)))] [EV (.slice Al i cl), EV (.slice (some adZ) l cz), EV (.int .i64 ((i : Int))), EV (.pointer (some (Addr.add adZ i))), EV (.int .i16 zi), EV (.int .i64 zi), fun zz w' => ∃ g0 : Nat, zz = .slice (some ⟨g0, 0, none⟩) 1 1 ∧ Blk w' g0 3 #[.int .i64 zi]] 7 (by kernel_rfl) ⟨rfl, rfl, rfl, trivial⟩ [false, false, false, false, false, false, false] ?_ ?_ ?_
        · exact ⟨eI, eI, eI, eI, eI, eI, fun _ _ _ ⟨g0, h1, h2⟩ hb => ⟨g0, h1, h2.keep hb⟩, trivial⟩
        · refine ⟨?_, ?_, ?_, ?_, ?_, ?_, ?_, trivial⟩
          · exact fun _ _ _ he hd => ob_mv rfl rfl he.1
          · exact fun _ _ _ he hd => ob_mv rfl rfl he.2.1
          · exact fun _ _ _ he hd => ob_mv rfl rfl he.2.2.1
          · exact fun aa ww hb he hd => ob_plain rfl (idx_i16 hi rfl hd.1 hd.2.1)
          · exact fun aa ww hb he hd => ob_plain rfl (load_i16 rfl hd.1 ((hb.cell (p := Addr.add adZ i) hbk).trans hcZ))
          · exact fun aa ww hb he hd => ob_plain rfl (conv_i16 HZb.out rfl hd.1)
          · exact fun aa ww hb he hd => ob_plain rfl (gives_bs_int rfl hd.1)
        intro vs w6 hb hR
        have e52 : vs 0 = .slice Al i cl := hR 0 (by decide)
        have r58 := hR 6 (by decide)
        clear hR
        simp only [putsL, Nat.zero_add, Nat.reduceAdd, List.take_succ_cons, List.take_zero, Act.put, List.setIfInBounds_toArray, List.set_cons_zero, List.set_cons_succ]
        rw [e52]
        clear e52
        obtain ⟨g0, e58, hz⟩ := r58
        rw [e58]
        clear e58 hcZ hbk
        replace HI := Lib.hid (HI.out.below hb); replace HNp := Lib.hid (HNp.out.new hb)
        clear hb
        show wpOps _ _ _ [7, 8] _ _
        refine wpOps_next rfl rfl (wp_app_int9 _ _ rfl b0 (.slice Al i cl) i _ rfl HI.out.l g0 zi rfl hz (by omega) HI.out.sz ?_)
        intro v' w7 ho hgr hor kp
        obtain ⟨A8, c8, rfl⟩ := own_form ho.own
        show wpOps _ _ _ _ (Act.put _ (some 59) _) _
        simp only [Act.put, List.setIfInBounds_toArray, List.set_cons_zero, List.set_cons_succ]
        replace HI := Lib.hid (HI.out.push ho hgr kp); replace HNp := Lib.hid (HNp.out.keepN kp)
        clear ho hgr hor kp hz
        refine wpOps_next rfl rfl (wp_assign 11 (.tmp 59) rfl rfl (.slice A8 (i + 1) c8) rfl ?_)
        simp only [Act.put, List.setIfInBounds_toArray, List.set_cons_zero, List.set_cons_succ]
        unfold wpOps
        obtain ⟨adZ2, hAz2, -, hcZ⟩ := (HZ0.out.below HI.out.hb).at_ hi
        cases hAz2
        rw [← HZi.out] at hcZ
        obtain rfl := HWz.out
        go_wp2_with fail
        go_roundg (gk - 1)
        case measure => omega
        case rel => exact ⟨i + 1, c8, A8, 28, by go_num, rfl, rfl, by omega, rfl, Lib.hid ⟨by rw [I64_take (by have := HZ0.out.2.1.1; omega), ← HZi.out]; exact HI.out, HNp.out⟩⟩
      · obtain rfl : l = i := by omega
        have hz28 := HWz.out
        subst hz28
        have hx1 := HI.out.x1
        obtain ⟨w5, hw5⟩ : ∃ w5, w5 = wr := ⟨_, rfl⟩
        subst hw5
        have hown := HI.out.l.own
        rw [show zs.take l = zs from List.take_of_length_le (by have := HZ0.out.2.1.1; omega)] at hown
        obtain ⟨Al2, cl2, q1, hxl⟩ := Xs.of_own hown (fun x hx => by have := HZ0.out.2.2 x hx; omega)
        cases q1
        have HLx := Lib.hid hxl; clear hxl hown
        have HC := Lib.hid HI.out.cu; have H10 := Lib.hid HI.out.ex; have HX1 := Lib.hid (hx1.more HI.out.sz); have HW1 := Lib.hid (Rs.moreB HI.out.w1 HI.out.sz); have HB := Lib.hid HI.out.hb
        clear HI hx1 HNb
        go_wp2_with fail
        go_loopg [79] a (fun g iv wq => ∃ i : Nat, iv = .int .i64 i ∧ i + g = a ∧ w5 = wq ∧ Hid (∀ j, j < i → inth xs j ≤ 20))
        case atStart => exact ⟨0, rfl, by omega, rfl, Lib.hid (fun j hj => absurd hj (by omega))⟩
        case round =>
          obtain ⟨i, rfl, hia, rfl, HP⟩ := hrel
          by_cases hi : i < a
          · have i1 : ((i : Int) < (a : Int)) := by omega
            obtain ⟨adX, hAx, -, hcX⟩ := HX1.out.at_ hi
            obtain ⟨xi, hxi⟩ : ∃ xi, xi = inth xs i := ⟨_, rfl⟩
            rw [← hxi] at hcX
            have HXi := Lib.hid hxi; clear hxi
            subst hAx
            by_cases h20 : xi > 20
            · skip
              go_wp2_with fail
              refine (awake29_any _).mono ?_
              rintro e w8 ⟨rfl, hb⟩
              go_wp2_with fail
              go_ret
              exact ⟨rfl, bthen HB.out hb HB.out.size⟩
            go_wp2_with fail
            go_roundg (gk - 1)
            case measure => omega
            case rel => exact ⟨i + 1, by go_num, by omega, rfl, Lib.hid (fun j hj => by
              by_cases e : j = i
              · subst e; rw [← HXi.out]; omega
              · exact HP.out j (by omega))⟩
          · obtain rfl : a = i := by omega
            have HBig := Lib.hid (show ∀ d, d ≤ dn → cnt ^ d < bigP from fun d hd => Nat.lt_of_lt_of_le (PB_pow (a := 1) (by rw [PB]; have := HCt.out; omega) d) (Nat.le_trans (PB_mono (by have := HDn.out; omega)) big60))
            go_upto_region 22 with (fail)
            refine wp_region_each (kss := [[], [(0, 88)], [(1, 89)], [], [], [(2, 90), (3, 91), (4, 92)], [(5, 93)], [(6, 87)], [(6, 87)], [(7, 94)], [(8, 95)]]) [(2, .int .u32 ((cnt : Int))), (7, .pointer (some ⟨g7, 0, none⟩)), (11, .slice Al l cl)] [EV (.int .u32 ((cnt : Int))), EV (.int .u64 ((cnt : Int))), Nv (2) (cnt), EV (.agg #[.slice A2 a c2, .slice D2 bn d2, .bool s2, .slice A5 k5 c5, .slice B5 m5 d5]), EV (.slice Al l cl), EV (.tuple #[.bool false, .int .i64 28]), EV (.tuple #[.bool false, .int .i64 28]), EV (.bool false), EV (.int .i64 28), EV (.bool false), EV (.int .i64 28)] (by kernel_rfl) (by kernel_rfl) ⟨rfl, rfl, rfl, trivial⟩ ?_ ?_ ?_
            · exact ⟨eI, eI, fun _ _ _ h hb => Nv.new h hb, eI, eI, eI, eI, eI, eI, eI, eI, trivial⟩
            · refine ⟨?_, ?_, ?_, ?_, ?_, ?_, ?_, ?_, ?_, ?_, ?_, trivial⟩
              · exact fun _ _ _ he hd => ob_mv rfl rfl he.1
              · exact fun aa ww hb he hd => ob_plain rfl (conv_u32q HCt.out rfl hd.1)
              · exact fun aa ww hb he hd => ob_plain rfl (gives_call1 _ _ _ rfl (by kernel_rfl) (nof_v cnt (by have := HCt.out; omega) _ hd.1 _))
              · exact fun aa ww hb he hd => ob_plain rfl (load_cov rfl he.2.1 (Blk.keep HC.out hb))
              · exact fun _ _ _ he hd => ob_mv rfl rfl he.2.2.1
              · exact fun aa ww hb he hd => ob_plain rfl (by obtain ⟨A7, k7, c7, e7, h7⟩ := hd.1; exact gives_call3 _ _ _ _ _ rfl (by kernel_rfl) (by rw [show aa.eval (.tmp 90) = _ from e7, show aa.eval (.tmp 91) = _ from hd.2.1, show aa.eval (.tmp 92) = _ from hd.2.2.1]; exact (cvwithin_any A7 k7 c7 2 cnt l a bn c2 d2 cl 2 A2 D2 Al s2 A5 B5 k5 c5 m5 d5 (fun i => fr (inth xs i) dn) zs _ (Rs.newW HW1.out hb) (HLx.out.new hb) (by omega) (by omega) (by omega) (fun e hok => bd_ok HDn.out.1 HDn.out.2 (fun i hi => ⟨(fr_nn HDn.out.1).1 (hok i hi).2, HP.out i hi⟩) (fun i hi => by have := HZ0.out.lt (show i < l by omega); omega)) h7 (fun _ _ => HBig.out _ (Nat.le_of_dvd HDn.out.1 (dl_dvd HDn.out.1 _)))).mono (fun _ _ ⟨v, h1, h2, h3⟩ => ⟨v, h1, h2.ne hla, h3⟩)))
              · exact fun _ _ _ he hd => ob_mv rfl rfl hd.1
              · exact fun aa ww hb he hd => ob_plain rfl (ext_c rfl hd.1 rfl)
              · exact fun aa ww hb he hd => ob_plain rfl (ext_c rfl hd.1 rfl)
              · exact fun aa ww hb he hd => ob_plain rfl (gives_assign _ rfl ⟨hd.1, Below.refl _ _⟩)
              · exact fun aa ww hb he hd => ob_plain rfl (gives_assign _ rfl ⟨hd.1, Below.refl _ _⟩)
            intro vs w6 hb hR
            have e17 : vs 9 = .bool false := hR 9 (by decide)
            have e18 : vs 10 = .int .i64 28 := hR 10 (by decide)
            clear hR
            simp only [putsL, Nat.zero_add, Nat.reduceAdd, List.take_succ_cons, List.take_zero, Act.put, List.setIfInBounds_toArray, List.set_cons_zero, List.set_cons_succ]
            rw [e17, e18]
            clear e17 e18
            replace HC := Lib.hid (HC.out.keep hb)
            replace H10 := Lib.hid (H10.out.keep hb)
            replace HX1 := Lib.hid (HX1.out.new hb)
            replace HW1 := Lib.hid (Rs.newW HW1.out hb)
            replace HLx := Lib.hid (HLx.out.new hb)
            replace HB := Lib.hid (bthen HB.out hb HB.out.size)
            replace HNp := Lib.hid (HNp.out.new hb)
            clear hb
            go_upto_region 23 with (fail)
            refine wp_region_seq (kss := [[], [], [(0, 97), (1, 98)], [(2, 99)], [(3, 96)], [(3, 96)], [(4, 100)], [(5, 101)]]) [(7, .pointer (some ⟨g7, 0, none⟩)), (11, .slice Al l cl)] [EV (.agg #[.slice A2 a c2, .slice D2 bn d2, .bool s2, .slice A5 k5 c5, .slice B5 m5 d5]), EV (.slice Al l cl), EV (.tuple #[.slice none 0 0, .int .i64 28]), EV (.tuple #[.slice none 0 0, .int .i64 28]), EV (.slice none 0 0), EV (.int .i64 28), EV (.slice none 0 0), EV (.int .i64 28)] (by kernel_rfl) ⟨rfl, rfl, trivial⟩ ?_ ?_ ?_
            · exact ⟨eI, eI, eI, eI, eI, eI, eI, eI, trivial⟩
            · refine ⟨?_, ?_, ?_, ?_, ?_, ?_, ?_, ?_, trivial⟩
              · exact fun aa ww hb he hd => ob_plain rfl (load_cov rfl he.1 (Blk.keep HC.out hb))
              · exact fun _ _ _ he hd => ob_mv rfl rfl he.2.1
              · exact fun aa ww hb he hd => ob_plain rfl (gives_call2 _ _ _ _ rfl (by kernel_rfl) (by rw [show aa.eval (.tmp 97) = _ from hd.1, show aa.eval (.tmp 98) = _ from hd.2.1]; exact (cvbound_any l a bn c2 d2 cl 2 A2 D2 Al s2 A5 B5 k5 c5 m5 d5 (fun i => fr (inth xs i) dn) zs _ (Rs.newW HW1.out hb) (HLx.out.new hb) (by omega) (by omega) (by omega) (fun e hok => bd_ok HDn.out.1 HDn.out.2 (fun i hi => ⟨(fr_nn HDn.out.1).1 (hok i hi).2, HP.out i hi⟩) (fun i hi => by have := HZ0.out.lt (show i < l by omega); omega))).mono (fun _ _ ⟨v, h1, h2, h3⟩ => ⟨v, h1, h2.ne hla, h3⟩)))
              · exact fun _ _ _ he hd => ob_mv rfl rfl hd.1
              · exact fun aa ww hb he hd => ob_plain rfl (ext_c rfl hd.1 rfl)
              · exact fun aa ww hb he hd => ob_plain rfl (ext_c rfl hd.1 rfl)
              · exact fun aa ww hb he hd => ob_plain rfl (gives_assign _ rfl ⟨hd.1, Below.refl _ _⟩)
              · exact fun aa ww hb he hd => ob_plain rfl (gives_assign _ rfl ⟨hd.1, Below.refl _ _⟩)
            intro vs w7 hb hR
            have e19 : vs 6 = .slice none 0 0 := hR 6 (by decide)
            have e20 : vs 7 = .int .i64 28 := hR 7 (by decide)
            clear hR
            simp only [putsL, Nat.zero_add, Nat.reduceAdd, List.take_succ_cons, List.take_zero, Act.put, List.setIfInBounds_toArray, List.set_cons_zero, List.set_cons_succ]
            rw [e19, e20]
            clear e19 e20
            replace HC := Lib.hid (HC.out.keep hb)
            replace H10 := Lib.hid (H10.out.keep hb)
            replace HX1 := Lib.hid (HX1.out.new hb)
            replace HW1 := Lib.hid (Rs.newW HW1.out hb)
            replace HLx := Lib.hid (HLx.out.new hb)
            replace HB := Lib.hid (bthen HB.out hb HB.out.size)
            replace HNp := Lib.hid (HNp.out.new hb)
            clear hb
            go_wp2_with fail
            refine (cmp_n (num0 _ 1 (by decide)) (num0 _ 1 (by decide))).mono ?_
            rintro e w8 ⟨rfl, hb⟩
            rw [show cmpN 0 0 = 0 from rfl]
            replace HB := Lib.hid (bthen HB.out hb HB.out.size)
            clear hb
            go_wp2_with fail
            refine (awake29_any _).mono ?_
            rintro e w9 ⟨rfl, hb⟩
            go_wp2_with fail
            go_ret
            exact ⟨rfl, bthen HB.out hb HB.out.size⟩
  obtain rfl : l = a := hla
  go_wp2_with fail
  refine (of_n 1 (by omega) _).mono ?_
  rintro e w4 ⟨AP, kp1, cp1, rfl, hp, -, hb⟩
  have HNp := Lib.hid hp; clear hp
  replace HB := Lib.hid (bthen HB.out hb HB.out.size)
  replace HW1 := Lib.hid (Rs.newW HW1.out hb)
  replace HX1 := Lib.hid (HX1.out.new hb)
  replace HC := Lib.hid (HC.out.keep hb)
  replace H10 := Lib.hid (H10.out.keep hb)
  clear hb
  obtain ⟨b0, hb0⟩ : ∃ b0, b0 = w4.heap.size := ⟨_, rfl⟩
  have hst : LpS w b0 g7 gx 3 #[.slice A2 l c2, .slice D2 bn d2, .bool s2, .slice A5 k5 c5, .slice B5 m5 d5] #[.int .i64 (dn : Int)] l A1 A2 xs (fun i => fr (inth xs i) dn) (.slice none 0 0) 0 (I64 (zs.take 0)) w4 := ⟨HC.out, H10.out, by rw [hb0]; exact HX1.out, by rw [hb0]; exact HW1.out, OwnC.nil _ _ _ _, HB.out, by have h1 := HC.out.lt; have h2 := H10.out.lt; have h3 := HB.out.size; omega, by omega⟩
  have HI := Lib.hid hst; have HNb := Lib.hid (show b0 = w4.heap.size from hb0)
  clear hst hb0
  go_wp2_with fail
  go_loopg [49, 11, 12] l (fun g iv lv zv wr => ∃ (i cl : Nat) (Al : Option Addr) (z : Int), iv = .int .i64 i ∧ lv = .slice Al i cl ∧ zv = .int .i64 z ∧ i + g = l ∧ z = (if allB (okW zs xs) i = true then 0 else 19) ∧ Hid (LpS w b0 g7 gx 3 #[.slice A2 l c2, .slice D2 bn d2, .bool s2, .slice A5 k5 c5, .slice B5 m5 d5] #[.int .i64 (dn : Int)] l A1 A2 xs (fun i => fr (inth xs i) dn) (.slice Al i cl) i (I64 (zs.take i)) wr ∧ Num wr AP kp1 cp1 2 1))
  case atStart => exact ⟨0, 0, none, _, rfl, rfl, rfl, by omega, rfl, Lib.hid ⟨HI.out, HNp.out⟩⟩
  case round =>
    obtain ⟨i, cl, Al, z, rfl, rfl, rfl, hil, hz9, HJ⟩ := hrel
    clear HI HNp HC H10 HW1 HX1 HB
    have HI := Lib.hid HJ.out.1; have HNp := Lib.hid HJ.out.2; clear HJ
    have HWz := Lib.hid hz9; clear hz9
    by_cases hi : i < l
    · have i1 : ((i : Int) < (l : Int)) := by omega
      go_upto_region 12 with (fail)
      replace HNp := Lib.hid HNp.out
      obtain ⟨adZ, hAz, hbZ, hcZ⟩ := (HZ0.out.below HI.out.hb).at_ hi
      have hzb := HZ0.out.lt hi
      obtain ⟨zi, hzi⟩ : ∃ zi, zi = inth zs i := ⟨_, rfl⟩
      rw [← hzi] at hcZ hzb
      have HZi := Lib.hid hzi; have HZb := Lib.hid hzb; clear hzi hzb
      subst hAz
      have hbk : (Addr.add adZ i).block < wr.heap.size := by rw [block_of_add]; exact Nat.lt_of_lt_of_le hbZ HI.out.hb.size
      refine wp_region_joins (kss := [[], [], [], [(1, 53), (2, 54)], [(3, 55)], [(4, 56)], [(5, 57)]]) [(11, .slice Al i cl), (1, .slice (some adZ) l cz), (14, .int .i64 ((i : Int)))] [EV (.slice Al i cl), EV (.slice (some adZ) l cz), EV (.int .i64 ((i : Int))), EV (.pointer (some (Addr.add adZ i))), EV (.int .i16 zi), EV (.int .i64 zi), fun zz w' => ∃ g0 : Nat, zz = .slice (some ⟨g0, 0, none⟩) 1 1 ∧ Blk w' g0 3 #[.int .i64 zi]] 7 (by kernel_rfl) ⟨rfl, rfl, rfl, trivial⟩ [false, false, false, false, false, false, false] ?_ ?_ ?_
      · exact ⟨eI, eI, eI, eI, eI, eI, fun _ _ _ ⟨g0, h1, h2⟩ hb => ⟨g0, h1, h2.keep hb⟩, trivial⟩
      · refine ⟨?_, ?_, ?_, ?_, ?_, ?_, ?_, trivial⟩
        · exact fun _ _ _ he hd => ob_mv rfl rfl he.1
        · exact fun _ _ _ he hd => ob_mv rfl rfl he.2.1
        · exact fun _ _ _ he hd => ob_mv rfl rfl he.2.2.1
        · exact fun aa ww hb he hd => ob_plain rfl (idx_i16 hi rfl hd.1 hd.2.1)
        · exact fun aa ww hb he hd => ob_plain rfl (load_i16 rfl hd.1 ((hb.cell (p := Addr.add adZ i) hbk).trans hcZ))
        · exact fun aa ww hb he hd => ob_plain rfl (conv_i16 HZb.out rfl hd.1)
        · exact fun aa ww hb he hd => ob_plain rfl (gives_bs_int rfl hd.1)
      intro vs w6 hb hR
      have e52 : vs 0 = .slice Al i cl := hR 0 (by decide)
      have r58 := hR 6 (by decide)
      clear hR
      simp only [putsL, Nat.zero_add, Nat.reduceAdd, List.take_succ_cons, List.take_zero, Act.put, List.setIfInBounds_toArray, List.set_cons_zero, List.set_cons_succ]
      rw [e52]
      clear e52
      obtain ⟨g0, e58, hz⟩ := r58
      rw [e58]
      clear e58 hcZ hbk
      replace HI := Lib.hid (HI.out.below hb); replace HNp := Lib.hid (HNp.out.new hb)
      clear hb
      show wpOps _ _ _ [7, 8] _ _
      refine wpOps_next rfl rfl (wp_app_int9 _ _ rfl b0 (.slice Al i cl) i _ rfl HI.out.l g0 zi rfl hz (by omega) HI.out.sz ?_)
      intro v' w7 ho hgr hor kp
      obtain ⟨A8, c8, rfl⟩ := own_form ho.own
      show wpOps _ _ _ _ (Act.put _ (some 59) _) _
      simp only [Act.put, List.setIfInBounds_toArray, List.set_cons_zero, List.set_cons_succ]
      replace HI := Lib.hid (HI.out.push ho hgr kp); replace HNp := Lib.hid (HNp.out.keepN kp)
      clear ho hgr hor kp hz
      refine wpOps_next rfl rfl (wp_assign 11 (.tmp 59) rfl rfl (.slice A8 (i + 1) c8) rfl ?_)
      simp only [Act.put, List.setIfInBounds_toArray, List.set_cons_zero, List.set_cons_succ]
      unfold wpOps
      obtain ⟨adZ2, hAz2, -, hcZ⟩ := (HZ0.out.below HI.out.hb).at_ hi
      cases hAz2
      rw [← HZi.out] at hcZ
      have t28 : (z != 28) = true := by
        have := HWz.out
        split at this <;> (subst this; rfl)
      obtain ⟨adX, hAx, -, hcX⟩ := HI.out.x1.at_ (show i < l from hi)
      obtain ⟨xi, hxi⟩ : ∃ xi, xi = inth xs i := ⟨_, rfl⟩
      rw [← hxi] at hcX
      have HXi := Lib.hid hxi; clear hxi
      subst hAx
      by_cases hz0 : zi < 0
      · skip
        go_wp2_with fail
        go_roundg (gk - 1)
        case measure => omega
        case rel => exact ⟨i + 1, c8, A8, 19, by go_num, rfl, rfl, by omega, by rw [if_neg]; rw [allB, Bool.and_eq_true]; rintro ⟨-, h⟩; unfold okW at h; rw [← HZi.out] at h; simp at h; omega, Lib.hid ⟨by rw [I64_take (by have := HZ0.out.2.1.1; omega), ← HZi.out]; exact HI.out, HNp.out⟩⟩
      by_cases hx0 : xi < 0
      · skip
        go_wp2_with fail
        go_roundg (gk - 1)
        case measure => omega
        case rel => exact ⟨i + 1, c8, A8, 19, by go_num, rfl, rfl, by omega, by rw [if_neg]; rw [allB, Bool.and_eq_true]; rintro ⟨-, h⟩; unfold okW at h; rw [← HXi.out] at h; simp at h; omega, Lib.hid ⟨by rw [I64_take (by have := HZ0.out.2.1.1; omega), ← HZi.out]; exact HI.out, HNp.out⟩⟩
      go_wp2_with fail
      go_roundg (gk - 1)
      case measure => omega
      case rel => exact ⟨i + 1, c8, A8, z, by go_num, rfl, rfl, by omega, by rw [HWz.out]; congr 1; rw [allB, show okW zs xs i = true from by unfold okW; rw [← HZi.out, ← HXi.out]; simp; omega, Bool.and_true], Lib.hid ⟨by rw [I64_take (by have := HZ0.out.2.1.1; omega), ← HZi.out]; exact HI.out, HNp.out⟩⟩
    · obtain rfl : l = i := by omega
      have hx1 := HI.out.x1
      obtain ⟨w5, hw5⟩ : ∃ w5, w5 = wr := ⟨_, rfl⟩
      subst hw5
      have hown := HI.out.l.own
      rw [show zs.take l = zs from List.take_of_length_le (by have := HZ0.out.2.1.1; omega)] at hown
      obtain ⟨Al2, cl2, q1, hxl⟩ := Xs.of_own hown (fun x hx => by have := HZ0.out.2.2 x hx; omega)
      cases q1
      have HLx := Lib.hid hxl; clear hxl hown
      have HC := Lib.hid HI.out.cu; have H10 := Lib.hid HI.out.ex; have HX1 := Lib.hid (hx1.more HI.out.sz); have HW1 := Lib.hid (Rs.moreB HI.out.w1 HI.out.sz); have HB := Lib.hid HI.out.hb
      clear HI hx1 HNb
      go_wp2_with fail
      go_loopg [79] l (fun g iv wq => ∃ i : Nat, iv = .int .i64 i ∧ i + g = l ∧ w5 = wq ∧ Hid (∀ j, j < i → inth xs j ≤ 20))
      case atStart => exact ⟨0, rfl, by omega, rfl, Lib.hid (fun j hj => absurd hj (by omega))⟩
      case round =>
        obtain ⟨i, rfl, hia, rfl, HP⟩ := hrel
        by_cases hi : i < l
        · have i1 : ((i : Int) < (l : Int)) := by omega
          obtain ⟨adX, hAx, -, hcX⟩ := HX1.out.at_ hi
          obtain ⟨xi, hxi⟩ : ∃ xi, xi = inth xs i := ⟨_, rfl⟩
          rw [← hxi] at hcX
          have HXi := Lib.hid hxi; clear hxi
          subst hAx
          by_cases h20 : xi > 20
          · skip
            go_wp2_with fail
            refine (awake29_any _).mono ?_
            rintro e w8 ⟨rfl, hb⟩
            go_wp2_with fail
            go_ret
            exact ⟨rfl, bthen HB.out hb HB.out.size⟩
          go_wp2_with fail
          go_roundg (gk - 1)
          case measure => omega
          case rel => exact ⟨i + 1, by go_num, by omega, rfl, Lib.hid (fun j hj => by
            by_cases e : j = i
            · subst e; rw [← HXi.out]; omega
            · exact HP.out j (by omega))⟩
        · obtain rfl : l = i := by omega
          have HBig := Lib.hid (show ∀ d, d ≤ dn → cnt ^ d < bigP from fun d hd => Nat.lt_of_lt_of_le (PB_pow (a := 1) (by rw [PB]; have := HCt.out; omega) d) (Nat.le_trans (PB_mono (by have := HDn.out; omega)) big60))
          by_cases hall : allB (okW zs xs) l = true
          rotate_left
          · have hz19 : z = 19 := by rw [HWz.out, if_neg hall]
            subst hz19
            have HAll := Lib.hid hall; clear hall
            go_upto_region 22 with (fail)
            refine wp_region_each (kss := [[], [(0, 88)], [(1, 89)], [], [], [(2, 90), (3, 91), (4, 92)], [(5, 93)], [(6, 87)], [(6, 87)], [(7, 94)], [(8, 95)]]) [(2, .int .u32 ((cnt : Int))), (7, .pointer (some ⟨g7, 0, none⟩)), (11, .slice Al l cl)] [EV (.int .u32 ((cnt : Int))), EV (.int .u64 ((cnt : Int))), Nv (2) (cnt), EV (.agg #[.slice A2 l c2, .slice D2 bn d2, .bool s2, .slice A5 k5 c5, .slice B5 m5 d5]), EV (.slice Al l cl), EV (.tuple #[.bool false, .int .i64 19]), EV (.tuple #[.bool false, .int .i64 19]), EV (.bool false), EV (.int .i64 19), EV (.bool false), EV (.int .i64 19)] (by kernel_rfl) (by kernel_rfl) ⟨rfl, rfl, rfl, trivial⟩ ?_ ?_ ?_
            · exact ⟨eI, eI, fun _ _ _ h hb => Nv.new h hb, eI, eI, eI, eI, eI, eI, eI, eI, trivial⟩
            · refine ⟨?_, ?_, ?_, ?_, ?_, ?_, ?_, ?_, ?_, ?_, ?_, trivial⟩
              · exact fun _ _ _ he hd => ob_mv rfl rfl he.1
              · exact fun aa ww hb he hd => ob_plain rfl (conv_u32q HCt.out rfl hd.1)
              · exact fun aa ww hb he hd => ob_plain rfl (gives_call1 _ _ _ rfl (by kernel_rfl) (nof_v cnt (by have := HCt.out; omega) _ hd.1 _))
              · exact fun aa ww hb he hd => ob_plain rfl (load_cov rfl he.2.1 (Blk.keep HC.out hb))
              · exact fun _ _ _ he hd => ob_mv rfl rfl he.2.2.1
              · exact fun aa ww hb he hd => ob_plain rfl (by obtain ⟨A7, k7, c7, e7, h7⟩ := hd.1; exact gives_call3 _ _ _ _ _ rfl (by kernel_rfl) (by rw [show aa.eval (.tmp 90) = _ from e7, show aa.eval (.tmp 91) = _ from hd.2.1, show aa.eval (.tmp 92) = _ from hd.2.2.1]; exact (cvwithin_any A7 k7 c7 2 cnt l l bn c2 d2 cl 2 A2 D2 Al s2 A5 B5 k5 c5 m5 d5 (fun i => fr (inth xs i) dn) zs _ (Rs.newW HW1.out hb) (HLx.out.new hb) (by omega) (by omega) (by omega) (fun e hok => bd_ok HDn.out.1 HDn.out.2 (fun i hi => ⟨(fr_nn HDn.out.1).1 (hok i hi).2, HP.out i hi⟩) (fun i hi => by have := HZ0.out.lt (show i < l by omega); omega)) h7 (fun _ _ => HBig.out _ (Nat.le_of_dvd HDn.out.1 (dl_dvd HDn.out.1 _)))).mono (fun _ _ ⟨v, h1, h2, h3⟩ => ⟨v, h1, h2.neg rfl (okW_bad HDn.out.1 HAll.out), h3⟩)))
              · exact fun _ _ _ he hd => ob_mv rfl rfl hd.1
              · exact fun aa ww hb he hd => ob_plain rfl (ext_c rfl hd.1 rfl)
              · exact fun aa ww hb he hd => ob_plain rfl (ext_c rfl hd.1 rfl)
              · exact fun aa ww hb he hd => ob_plain rfl (gives_assign _ rfl ⟨hd.1, Below.refl _ _⟩)
              · exact fun aa ww hb he hd => ob_plain rfl (gives_assign _ rfl ⟨hd.1, Below.refl _ _⟩)
            intro vs w6 hb hR
            have e17 : vs 9 = .bool false := hR 9 (by decide)
            have e18 : vs 10 = .int .i64 19 := hR 10 (by decide)
            clear hR
            simp only [putsL, Nat.zero_add, Nat.reduceAdd, List.take_succ_cons, List.take_zero, Act.put, List.setIfInBounds_toArray, List.set_cons_zero, List.set_cons_succ]
            rw [e17, e18]
            clear e17 e18
            replace HC := Lib.hid (HC.out.keep hb)
            replace H10 := Lib.hid (H10.out.keep hb)
            replace HX1 := Lib.hid (HX1.out.new hb)
            replace HW1 := Lib.hid (Rs.newW HW1.out hb)
            replace HLx := Lib.hid (HLx.out.new hb)
            replace HB := Lib.hid (bthen HB.out hb HB.out.size)
            replace HNp := Lib.hid (HNp.out.new hb)
            clear hb
            go_upto_region 23 with (fail)
            refine wp_region_seq (kss := [[], [], [(0, 97), (1, 98)], [(2, 99)], [(3, 96)], [(3, 96)], [(4, 100)], [(5, 101)]]) [(7, .pointer (some ⟨g7, 0, none⟩)), (11, .slice Al l cl)] [EV (.agg #[.slice A2 l c2, .slice D2 bn d2, .bool s2, .slice A5 k5 c5, .slice B5 m5 d5]), EV (.slice Al l cl), EV (.tuple #[.slice none 0 0, .int .i64 19]), EV (.tuple #[.slice none 0 0, .int .i64 19]), EV (.slice none 0 0), EV (.int .i64 19), EV (.slice none 0 0), EV (.int .i64 19)] (by kernel_rfl) ⟨rfl, rfl, trivial⟩ ?_ ?_ ?_
            · exact ⟨eI, eI, eI, eI, eI, eI, eI, eI, trivial⟩
            · refine ⟨?_, ?_, ?_, ?_, ?_, ?_, ?_, ?_, trivial⟩
              · exact fun aa ww hb he hd => ob_plain rfl (load_cov rfl he.1 (Blk.keep HC.out hb))
              · exact fun _ _ _ he hd => ob_mv rfl rfl he.2.1
              · exact fun aa ww hb he hd => ob_plain rfl (gives_call2 _ _ _ _ rfl (by kernel_rfl) (by rw [show aa.eval (.tmp 97) = _ from hd.1, show aa.eval (.tmp 98) = _ from hd.2.1]; exact (cvbound_any l l bn c2 d2 cl 2 A2 D2 Al s2 A5 B5 k5 c5 m5 d5 (fun i => fr (inth xs i) dn) zs _ (Rs.newW HW1.out hb) (HLx.out.new hb) (by omega) (by omega) (by omega) (fun e hok => bd_ok HDn.out.1 HDn.out.2 (fun i hi => ⟨(fr_nn HDn.out.1).1 (hok i hi).2, HP.out i hi⟩) (fun i hi => by have := HZ0.out.lt (show i < l by omega); omega))).mono (fun _ _ ⟨v, h1, h2, h3⟩ => ⟨v, h1, h2.neg rfl (okW_bad HDn.out.1 HAll.out), h3⟩)))
              · exact fun _ _ _ he hd => ob_mv rfl rfl hd.1
              · exact fun aa ww hb he hd => ob_plain rfl (ext_c rfl hd.1 rfl)
              · exact fun aa ww hb he hd => ob_plain rfl (ext_c rfl hd.1 rfl)
              · exact fun aa ww hb he hd => ob_plain rfl (gives_assign _ rfl ⟨hd.1, Below.refl _ _⟩)
              · exact fun aa ww hb he hd => ob_plain rfl (gives_assign _ rfl ⟨hd.1, Below.refl _ _⟩)
            intro vs w7 hb hR
            have e19 : vs 6 = .slice none 0 0 := hR 6 (by decide)
            have e20 : vs 7 = .int .i64 19 := hR 7 (by decide)
            clear hR
            simp only [putsL, Nat.zero_add, Nat.reduceAdd, List.take_succ_cons, List.take_zero, Act.put, List.setIfInBounds_toArray, List.set_cons_zero, List.set_cons_succ]
            rw [e19, e20]
            clear e19 e20
            replace HC := Lib.hid (HC.out.keep hb)
            replace H10 := Lib.hid (H10.out.keep hb)
            replace HX1 := Lib.hid (HX1.out.new hb)
            replace HW1 := Lib.hid (Rs.newW HW1.out hb)
            replace HLx := Lib.hid (HLx.out.new hb)
            replace HB := Lib.hid (bthen HB.out hb HB.out.size)
            replace HNp := Lib.hid (HNp.out.new hb)
            clear hb
            go_wp2_with fail
            refine (cmp_n (num0 _ 1 (by decide)) (num0 _ 1 (by decide))).mono ?_
            rintro e w8 ⟨rfl, hb⟩
            rw [show cmpN 0 0 = 0 from rfl]
            replace HB := Lib.hid (bthen HB.out hb HB.out.size)
            clear hb
            go_wp2_with fail
            refine (awake29_any _).mono ?_
            rintro e w9 ⟨rfl, hb⟩
            go_wp2_with fail
            go_ret
            exact ⟨rfl, bthen HB.out hb HB.out.size⟩
          have hz0 : z = 0 := by rw [HWz.out, if_pos hall]
          subst hz0
          have HAll := Lib.hid hall; clear hall
          obtain ⟨bb, hbb⟩ : ∃ bb, bb = decide (cnt ^ dn ≤ prodZ zs xs l) := ⟨_, rfl⟩
          have HBb := Lib.hid hbb; clear hbb
          go_upto_region 22 with (fail)
          refine wp_region_each (kss := [[], [(0, 88)], [(1, 89)], [], [], [(2, 90), (3, 91), (4, 92)], [(5, 93)], [(6, 87)], [(6, 87)], [(7, 94)], [(8, 95)]]) [(2, .int .u32 ((cnt : Int))), (7, .pointer (some ⟨g7, 0, none⟩)), (11, .slice Al l cl)] [EV (.int .u32 ((cnt : Int))), EV (.int .u64 ((cnt : Int))), Nv (2) (cnt), EV (.agg #[.slice A2 l c2, .slice D2 bn d2, .bool s2, .slice A5 k5 c5, .slice B5 m5 d5]), EV (.slice Al l cl), EV (.tuple #[.bool bb, .int .i64 0]), EV (.tuple #[.bool bb, .int .i64 0]), EV (.bool bb), EV (.int .i64 0), EV (.bool bb), EV (.int .i64 0)] (by kernel_rfl) (by kernel_rfl) ⟨rfl, rfl, rfl, trivial⟩ ?_ ?_ ?_
          · exact ⟨eI, eI, fun _ _ _ h hb => Nv.new h hb, eI, eI, eI, eI, eI, eI, eI, eI, trivial⟩
          · refine ⟨?_, ?_, ?_, ?_, ?_, ?_, ?_, ?_, ?_, ?_, ?_, trivial⟩
            · exact fun _ _ _ he hd => ob_mv rfl rfl he.1
            · exact fun aa ww hb he hd => ob_plain rfl (conv_u32q HCt.out rfl hd.1)
            · exact fun aa ww hb he hd => ob_plain rfl (gives_call1 _ _ _ rfl (by kernel_rfl) (nof_v cnt (by have := HCt.out; omega) _ hd.1 _))
            · exact fun aa ww hb he hd => ob_plain rfl (load_cov rfl he.2.1 (Blk.keep HC.out hb))
            · exact fun _ _ _ he hd => ob_mv rfl rfl he.2.2.1
            · exact fun aa ww hb he hd => ob_plain rfl (by obtain ⟨A7, k7, c7, e7, h7⟩ := hd.1; exact gives_call3 _ _ _ _ _ rfl (by kernel_rfl) (by rw [show aa.eval (.tmp 90) = _ from e7, show aa.eval (.tmp 91) = _ from hd.2.1, show aa.eval (.tmp 92) = _ from hd.2.2.1]; exact (cvwithin_any A7 k7 c7 2 cnt l l bn c2 d2 cl 2 A2 D2 Al s2 A5 B5 k5 c5 m5 d5 (fun i => fr (inth xs i) dn) zs _ (Rs.newW HW1.out hb) (HLx.out.new hb) (by omega) (by omega) (by omega) (fun e hok => bd_ok HDn.out.1 HDn.out.2 (fun i hi => ⟨(fr_nn HDn.out.1).1 (hok i hi).2, HP.out i hi⟩) (fun i hi => by have := HZ0.out.lt (show i < l by omega); omega)) h7 (fun _ _ => HBig.out _ (Nat.le_of_dvd HDn.out.1 (dl_dvd HDn.out.1 _)))).mono (fun _ _ ⟨v, h1, h2, h3⟩ => ⟨v, h1, (h2.good rfl ((okW_all HDn.out.1).1 HAll.out)).trans (by rw [HBb.out, ← win_exact HDn.out.1 (fun i hi => (fr_nn HDn.out.1).1 ((okW_all HDn.out.1).1 HAll.out i hi).2)]), h3⟩)))
            · exact fun _ _ _ he hd => ob_mv rfl rfl hd.1
            · exact fun aa ww hb he hd => ob_plain rfl (ext_c rfl hd.1 rfl)
            · exact fun aa ww hb he hd => ob_plain rfl (ext_c rfl hd.1 rfl)
            · exact fun aa ww hb he hd => ob_plain rfl (gives_assign _ rfl ⟨hd.1, Below.refl _ _⟩)
            · exact fun aa ww hb he hd => ob_plain rfl (gives_assign _ rfl ⟨hd.1, Below.refl _ _⟩)
          intro vs w6 hb hR
          have e17 : vs 9 = .bool bb := hR 9 (by decide)
          have e18 : vs 10 = .int .i64 0 := hR 10 (by decide)
          clear hR
          simp only [putsL, Nat.zero_add, Nat.reduceAdd, List.take_succ_cons, List.take_zero, Act.put, List.setIfInBounds_toArray, List.set_cons_zero, List.set_cons_succ]
          rw [e17, e18]
          clear e17 e18
          replace HC := Lib.hid (HC.out.keep hb)
          replace H10 := Lib.hid (H10.out.keep hb)
          replace HX1 := Lib.hid (HX1.out.new hb)
          replace HW1 := Lib.hid (Rs.newW HW1.out hb)
          replace HLx := Lib.hid (HLx.out.new hb)
          replace HB := Lib.hid (bthen HB.out hb HB.out.size)
          replace HNp := Lib.hid (HNp.out.new hb)
          clear hb
          go_upto_region 23 with (fail)
          refine wp_region_seq (kss := [[], [], [(0, 97), (1, 98)], [(2, 99)], [(3, 96)], [(3, 96)], [(4, 100)], [(5, 101)]]) [(7, .pointer (some ⟨g7, 0, none⟩)), (11, .slice Al l cl)] [EV (.agg #[.slice A2 l c2, .slice D2 bn d2, .bool s2, .slice A5 k5 c5, .slice B5 m5 d5]), EV (.slice Al l cl), BnP (dlcm (fun i => fr (inth xs i) dn) l) (prodP zs (fun i => fr (inth xs i) dn) (dlcm (fun i => fr (inth xs i) dn) l) l), BnP (dlcm (fun i => fr (inth xs i) dn) l) (prodP zs (fun i => fr (inth xs i) dn) (dlcm (fun i => fr (inth xs i) dn) l) l), BnN (dlcm (fun i => fr (inth xs i) dn) l) (prodP zs (fun i => fr (inth xs i) dn) (dlcm (fun i => fr (inth xs i) dn) l) l), EV (.int .i64 0), BnN (dlcm (fun i => fr (inth xs i) dn) l) (prodP zs (fun i => fr (inth xs i) dn) (dlcm (fun i => fr (inth xs i) dn) l) l), EV (.int .i64 0)] (by kernel_rfl) ⟨rfl, rfl, trivial⟩ ?_ ?_ ?_
          · exact ⟨eI, eI, fun _ _ _ h hb => h.new hb, fun _ _ _ h hb => h.new hb, fun _ _ _ h hb => h.new hb, eI, fun _ _ _ h hb => h.new hb, eI, trivial⟩
          · refine ⟨?_, ?_, ?_, ?_, ?_, ?_, ?_, ?_, trivial⟩
            · exact fun aa ww hb he hd => ob_plain rfl (load_cov rfl he.1 (Blk.keep HC.out hb))
            · exact fun _ _ _ he hd => ob_mv rfl rfl he.2.1
            · exact fun aa ww hb he hd => ob_plain rfl (gives_call2 _ _ _ _ rfl (by kernel_rfl) (by rw [show aa.eval (.tmp 97) = _ from hd.1, show aa.eval (.tmp 98) = _ from hd.2.1]; exact (cvbound_any l l bn c2 d2 cl 2 A2 D2 Al s2 A5 B5 k5 c5 m5 d5 (fun i => fr (inth xs i) dn) zs _ (Rs.newW HW1.out hb) (HLx.out.new hb) (by omega) (by omega) (by omega) (fun e hok => bd_ok HDn.out.1 HDn.out.2 (fun i hi => ⟨(fr_nn HDn.out.1).1 (hok i hi).2, HP.out i hi⟩) (fun i hi => by have := HZ0.out.lt (show i < l by omega); omega))).mono (fun _ _ ⟨v, h1, h2, h3⟩ => ⟨v, h1, h2.good rfl ((okW_all HDn.out.1).1 HAll.out), h3⟩)))
            · exact fun _ _ _ he hd => ob_mv rfl rfl hd.1
            · exact fun aa ww hb he hd => ob_plain rfl (ext_bn rfl hd.1)
            · exact fun aa ww hb he hd => ob_plain rfl (ext_bn1 rfl hd.1)
            · exact fun aa ww hb he hd => ob_plain rfl (gives_assign _ rfl ⟨hd.1, Below.refl _ _⟩)
            · exact fun aa ww hb he hd => ob_plain rfl (gives_assign _ rfl ⟨hd.1, Below.refl _ _⟩)
          intro vs w7 hb hR
          have r19 := hR 6 (by decide)
          have e20 : vs 7 = .int .i64 0 := hR 7 (by decide)
          clear hR
          simp only [putsL, Nat.zero_add, Nat.reduceAdd, List.take_succ_cons, List.take_zero, Act.put, List.setIfInBounds_toArray, List.set_cons_zero, List.set_cons_succ]
          rw [e20]
          clear e20
          replace HC := Lib.hid (HC.out.keep hb)
          replace H10 := Lib.hid (H10.out.keep hb)
          replace HX1 := Lib.hid (HX1.out.new hb)
          replace HW1 := Lib.hid (Rs.newW HW1.out hb)
          replace HLx := Lib.hid (HLx.out.new hb)
          replace HB := Lib.hid (bthen HB.out hb HB.out.size)
          replace HNp := Lib.hid (HNp.out.new hb)
          clear hb
          obtain ⟨Ar, kr, cr, r, e19, hr1, hr2⟩ := r19
          rw [e19]
          clear e19
          have HR := Lib.hid hr1; clear hr1
          have HRx := Lib.hid (root_exact HDn.out.1 (fun i hi => (fr_nn HDn.out.1).1 ((okW_all HDn.out.1).1 HAll.out i hi).2) hr2)
          clear hr2
          have HPx := Lib.hid (show ∀ j, j < l → 0 ≤ inth zs j ∧ 0 ≤ inth xs j from fun j hj => ⟨((okW_all HDn.out.1).1 HAll.out j hj).1, (fr_nn HDn.out.1).1 ((okW_all HDn.out.1).1 HAll.out j hj).2⟩)
          go_wp2_with fail
          go_loopg [126, 13] l (fun g iv pv wr => ∃ (i : Nat) (Ap : Option Addr) (kp cp : Nat), iv = .int .i64 i ∧ pv = .slice Ap kp cp ∧ i + g = l ∧ Hid (Num wr Ap kp cp (2 + 40 * i) (prodZ zs xs i) ∧ Below w7.heap.size w7 wr))
          case atStart => exact ⟨0, AP, kp1, cp1, rfl, rfl, by omega, Lib.hid ⟨HNp.out, Below.refl _ _⟩⟩
          case round =>
            obtain ⟨i, Ap, kp, cp, rfl, rfl, hil2, HJ⟩ := hrel
            obtain ⟨G, hG⟩ : ∃ G, G = gk := ⟨_, rfl⟩
            subst hG
            by_cases hi : i < l
            · have i1 : ((i : Int) < (l : Int)) := by omega
              obtain ⟨m, hm⟩ : ∃ m : Nat, inth xs i = (m : Int) := ⟨(inth xs i).toNat, by have := (HPx.out i hi).2; omega⟩
              obtain ⟨zn, hzn⟩ : ∃ zn : Nat, inth zs i = (zn : Int) := ⟨(inth zs i).toNat, by have := (HPx.out i hi).1; omega⟩
              have hm20 : m ≤ 20 := by have := HP.out i hi; omega
              have hzb : zn ≤ 65535 := by have := HZ0.out.lt hi; omega
              have HM := Lib.hid (And.intro hm hzn)
              obtain ⟨adX, hAx, -, hcX⟩ := (HX1.out.below HJ.out.2).at_ hi
              rw [hm] at hcX
              subst hAx
              clear hm hzn
              go_wp2_with fail
              go_loopg [133, 13] m (fun g jv pv wq => ∃ (j : Nat) (Aq : Option Addr) (kq cq : Nat), jv = .int .i64 j ∧ pv = .slice Aq kq cq ∧ j + g = m ∧ Hid (Num wq Aq kq cq (2 + 40 * i + 2 * j) (prodZ zs xs i * zn ^ j) ∧ Below w7.heap.size w7 wq))
              case atStart => exact ⟨0, Ap, kp, cp, rfl, rfl, by omega, Lib.hid ⟨by rw [Nat.pow_zero, Nat.mul_one]; exact HJ.out.1, HJ.out.2⟩⟩
              case round =>
                obtain ⟨j, Aq, kq, cq, rfl, rfl, hjm, HK⟩ := hrel
                by_cases hj : j < m
                · have j1 : ((j : Int) < (m : Int)) := by omega
                  obtain ⟨adL, hAl, -, hcL⟩ := (HLx.out.below HK.out.2).at_ hi
                  rw [HM.out.2] at hcL
                  subst hAl
                  have e1 : IntKind.u64.wrap (zn : Int) = (zn : Int) := IntWalk.u64_in _ (by omega)
                  go_wp2_with fail
                  refine (of_n zn (by omega) _).mono ?_
                  rintro e w9 ⟨Ao, ko, co, rfl, ho, -, hb⟩
                  clear hcL e1
                  go_wp2_with fail
                  refine (mul_n (HK.out.1.new hb) ho (by omega)).mono ?_
                  rintro e wA ⟨Am, km, cm, rfl, hm2, -, hbm⟩
                  have HK2 := Lib.hid (show Num wA Am km cm (2 + 40 * i + 2 * (j + 1)) (prodZ zs xs i * zn ^ (j + 1)) ∧ Below w7.heap.size w7 wA from ⟨by rw [Nat.pow_succ, ← Nat.mul_assoc]; exact hm2, bthen (bthen HK.out.2 hb HK.out.2.size) hbm (bthen HK.out.2 hb HK.out.2.size).size⟩)
                  clear hm2 hbm hb ho HK
                  go_wp2_with fail
                  go_roundg (gk - 1)
                  case measure => omega
                  case rel => exact ⟨j + 1, Am, km, cm, by go_num, rfl, by omega, HK2⟩
                · obtain rfl : m = j := by omega
                  go_wp2_with fail
                  go_roundg (G - 1)
                  case measure => omega
                  case rel => exact ⟨i + 1, Aq, kq, cq, by go_num, rfl, by omega, Lib.hid ⟨by rw [show prodZ zs xs (i + 1) = prodZ zs xs i * zn ^ m from by show prodZ zs xs i * (inth zs i).toNat ^ (inth xs i).toNat = _; rw [HM.out.1, HM.out.2]; rfl]; exact HK.out.1.more (by omega), HK.out.2⟩⟩
            · obtain rfl : l = i := by omega
              have hb := HJ.out.2
              have HPr := Lib.hid HJ.out.1; clear HJ
              replace HC := Lib.hid (HC.out.keep hb)
              replace H10 := Lib.hid (H10.out.keep hb)
              replace HX1 := Lib.hid (HX1.out.new hb)
              replace HW1 := Lib.hid (Rs.newW HW1.out hb)
              replace HLx := Lib.hid (HLx.out.new hb)
              replace HB := Lib.hid (bthen HB.out hb HB.out.size)
              replace HNp := Lib.hid (HNp.out.new hb)
              replace HR := Lib.hid (HR.out.new hb)
              clear hb
              obtain ⟨w8, hw8⟩ : ∃ w8, w8 = wr := ⟨_, rfl⟩
              subst hw8
              have hK20 : Enters 20 := enters (by kernel_rfl)
              unfold Enters at hK20
              go_wp2_with fail
              refine (of_n 1 (by omega) _).mono ?_
              rintro e w9 ⟨A1o, k1o, c1o, rfl, h1o, -, hb⟩
              have H1o := Lib.hid h1o; clear h1o
              replace HC := Lib.hid (HC.out.keep hb)
              replace H10 := Lib.hid (H10.out.keep hb)
              replace HX1 := Lib.hid (HX1.out.new hb)
              replace HW1 := Lib.hid (Rs.newW HW1.out hb)
              replace HLx := Lib.hid (HLx.out.new hb)
              replace HB := Lib.hid (bthen HB.out hb HB.out.size)
              replace HNp := Lib.hid (HNp.out.new hb)
              replace HR := Lib.hid (HR.out.new hb)
              replace HPr := Lib.hid (HPr.out.new hb)
              clear hb
              go_wp2_with fail
              refine (add_n HR.out H1o.out (by omega)).mono ?_
              rintro e wA ⟨An, kn, cn, rfl, hn9, -, hb⟩
              have HN := Lib.hid hn9; clear hn9
              replace HC := Lib.hid (HC.out.keep hb)
              replace H10 := Lib.hid (H10.out.keep hb)
              replace HX1 := Lib.hid (HX1.out.new hb)
              replace HW1 := Lib.hid (Rs.newW HW1.out hb)
              replace HLx := Lib.hid (HLx.out.new hb)
              replace HB := Lib.hid (bthen HB.out hb HB.out.size)
              replace HNp := Lib.hid (HNp.out.new hb)
              replace HR := Lib.hid (HR.out.new hb)
              replace HPr := Lib.hid (HPr.out.new hb)
              replace H1o := Lib.hid (H1o.out.new hb)
              clear hb
              have e1 : IntKind.u64.wrap (cnt : Int) = (cnt : Int) := IntWalk.u64_in _ (by have := HCt.out; omega)
              go_wp2_with fail
              refine (of_n cnt (by have := HCt.out; omega) _).mono ?_
              rintro e wB ⟨Ac, kc, cc9, rfl, hc9, -, hb⟩
              have HCn := Lib.hid hc9; clear hc9 e1
              replace HC := Lib.hid (HC.out.keep hb)
              replace H10 := Lib.hid (H10.out.keep hb)
              replace HX1 := Lib.hid (HX1.out.new hb)
              replace HW1 := Lib.hid (Rs.newW HW1.out hb)
              replace HLx := Lib.hid (HLx.out.new hb)
              replace HB := Lib.hid (bthen HB.out hb HB.out.size)
              replace HNp := Lib.hid (HNp.out.new hb)
              replace HR := Lib.hid (HR.out.new hb)
              replace HPr := Lib.hid (HPr.out.new hb)
              replace H1o := Lib.hid (H1o.out.new hb)
              replace HN := Lib.hid (HN.out.new hb)
              clear hb
              go_wp2_with fail
              refine (pow20_any gx dn 2 cnt Ac kc cc9 wB H10.out HCn.out HDn.out.2 (by omega)).mono ?_
              rintro e wC ⟨Aa, ka, ca9, rfl, ha9, hb⟩
              have HPa := Lib.hid ha9; clear ha9
              replace HC := Lib.hid (HC.out.keep hb)
              replace H10 := Lib.hid (H10.out.keep hb)
              replace HX1 := Lib.hid (HX1.out.new hb)
              replace HW1 := Lib.hid (Rs.newW HW1.out hb)
              replace HLx := Lib.hid (HLx.out.new hb)
              replace HB := Lib.hid (bthen HB.out hb HB.out.size)
              replace HNp := Lib.hid (HNp.out.new hb)
              replace HR := Lib.hid (HR.out.new hb)
              replace HPr := Lib.hid (HPr.out.new hb)
              replace H1o := Lib.hid (H1o.out.new hb)
              replace HN := Lib.hid (HN.out.new hb)
              replace HCn := Lib.hid (HCn.out.new hb)
              clear hb
              go_wp2_with fail
              refine (cmp_n HPa.out HPr.out).mono ?_
              rintro e wD ⟨rfl, hb⟩
              replace HC := Lib.hid (HC.out.keep hb)
              replace H10 := Lib.hid (H10.out.keep hb)
              replace HX1 := Lib.hid (HX1.out.new hb)
              replace HW1 := Lib.hid (Rs.newW HW1.out hb)
              replace HLx := Lib.hid (HLx.out.new hb)
              replace HB := Lib.hid (bthen HB.out hb HB.out.size)
              replace HNp := Lib.hid (HNp.out.new hb)
              replace HR := Lib.hid (HR.out.new hb)
              replace HPr := Lib.hid (HPr.out.new hb)
              replace H1o := Lib.hid (H1o.out.new hb)
              replace HN := Lib.hid (HN.out.new hb)
              replace HCn := Lib.hid (HCn.out.new hb)
              replace HPa := Lib.hid (HPa.out.new hb)
              clear hb
              have t0 : decide (cmpN (cnt ^ dn) (prodZ zs xs l) ≤ 0) = bb := cmp_le0.trans HBb.out.symm
              have t1 : (bb == bb) = true := by cases bb <;> rfl
              go_wp2_with fail
              refine (pow20_any gx dn 600 r Ar kr cr wD H10.out HR.out HDn.out.2 (by omega)).mono ?_
              rintro e wE ⟨Ab, kb, cb9, rfl, hb9, hb⟩
              have HPb := Lib.hid hb9; clear hb9 t0 t1
              replace HC := Lib.hid (HC.out.keep hb)
              replace H10 := Lib.hid (H10.out.keep hb)
              replace HX1 := Lib.hid (HX1.out.new hb)
              replace HW1 := Lib.hid (Rs.newW HW1.out hb)
              replace HLx := Lib.hid (HLx.out.new hb)
              replace HB := Lib.hid (bthen HB.out hb HB.out.size)
              replace HNp := Lib.hid (HNp.out.new hb)
              replace HR := Lib.hid (HR.out.new hb)
              replace HPr := Lib.hid (HPr.out.new hb)
              replace H1o := Lib.hid (H1o.out.new hb)
              replace HN := Lib.hid (HN.out.new hb)
              replace HCn := Lib.hid (HCn.out.new hb)
              replace HPa := Lib.hid (HPa.out.new hb)
              clear hb
              go_wp2_with fail
              refine (cmp_n HPb.out HPr.out).mono ?_
              rintro e wF ⟨rfl, hb⟩
              replace HC := Lib.hid (HC.out.keep hb)
              replace H10 := Lib.hid (H10.out.keep hb)
              replace HX1 := Lib.hid (HX1.out.new hb)
              replace HW1 := Lib.hid (Rs.newW HW1.out hb)
              replace HLx := Lib.hid (HLx.out.new hb)
              replace HB := Lib.hid (bthen HB.out hb HB.out.size)
              replace HNp := Lib.hid (HNp.out.new hb)
              replace HR := Lib.hid (HR.out.new hb)
              replace HPr := Lib.hid (HPr.out.new hb)
              replace H1o := Lib.hid (H1o.out.new hb)
              replace HN := Lib.hid (HN.out.new hb)
              replace HCn := Lib.hid (HCn.out.new hb)
              replace HPa := Lib.hid (HPa.out.new hb)
              replace HPb := Lib.hid (HPb.out.new hb)
              clear hb
              have t0 := cmp_le1 HRx.out.1
              go_wp2_with fail
              refine (pow20_any gx dn 602 (r + 1) An kn cn wF H10.out (HN.out.more (by omega)) HDn.out.2 (by omega)).mono ?_
              rintro e wG ⟨Ae, ke, ce9, rfl, he9, hb⟩
              have HPe := Lib.hid he9; clear he9 t0
              replace HC := Lib.hid (HC.out.keep hb)
              replace H10 := Lib.hid (H10.out.keep hb)
              replace HX1 := Lib.hid (HX1.out.new hb)
              replace HW1 := Lib.hid (Rs.newW HW1.out hb)
              replace HLx := Lib.hid (HLx.out.new hb)
              replace HB := Lib.hid (bthen HB.out hb HB.out.size)
              replace HNp := Lib.hid (HNp.out.new hb)
              replace HR := Lib.hid (HR.out.new hb)
              replace HPr := Lib.hid (HPr.out.new hb)
              replace H1o := Lib.hid (H1o.out.new hb)
              replace HN := Lib.hid (HN.out.new hb)
              replace HCn := Lib.hid (HCn.out.new hb)
              replace HPa := Lib.hid (HPa.out.new hb)
              replace HPb := Lib.hid (HPb.out.new hb)
              clear hb
              go_wp2_with fail
              refine (cmp_n HPe.out HPr.out).mono ?_
              rintro e wH ⟨rfl, hb⟩
              replace HC := Lib.hid (HC.out.keep hb)
              replace H10 := Lib.hid (H10.out.keep hb)
              replace HX1 := Lib.hid (HX1.out.new hb)
              replace HW1 := Lib.hid (Rs.newW HW1.out hb)
              replace HLx := Lib.hid (HLx.out.new hb)
              replace HB := Lib.hid (bthen HB.out hb HB.out.size)
              replace HNp := Lib.hid (HNp.out.new hb)
              replace HR := Lib.hid (HR.out.new hb)
              replace HPr := Lib.hid (HPr.out.new hb)
              replace H1o := Lib.hid (H1o.out.new hb)
              replace HN := Lib.hid (HN.out.new hb)
              replace HCn := Lib.hid (HCn.out.new hb)
              replace HPa := Lib.hid (HPa.out.new hb)
              replace HPb := Lib.hid (HPb.out.new hb)
              replace HPe := Lib.hid (HPe.out.new hb)
              clear hb
              have t0 := cmp_gt0 HRx.out.2
              go_wp2_with fail
              refine (awake29_any _).mono ?_
              rintro e wI ⟨rfl, hb⟩
              go_wp2_with fail
              go_ret
              exact ⟨rfl, bthen HB.out hb HB.out.size⟩
theorem coverBounds_walk (D a bn ca cb : Nat) (AX AY : Option Addr) (xs ys : List Int) (vN : Int) (AZ : Option Addr) (l cz : Nat) (zs : List Int) (x : Int) (w : World) (hD : D ≤ 255) (hX : Ks .i8 128 w w.heap.size AX a xs) (hY : Ks .i8 128 w w.heap.size AY bn ys) (hv : -128 ≤ vN ∧ vN < 128) (ha : a ≤ 1048576) (hb : bn ≤ 1048576) (hZ : Ks .i16 32768 w w.heap.size AZ l zs) (wx : 0 ≤ x ∧ x ≤ 4294967295) :
    Calls Try.prog 4 #[.agg #[.int .u8 (D : Int), .slice AX a ca, .slice AY bn cb, .int .i8 vN], .slice AZ l cz, .int .u32 x] w fun e w' => e = .returned (.bool true) ∧ Below w.heap.size w w' := by
  obtain ⟨cnt, rfl⟩ : ∃ cnt : Nat, x = (cnt : Int) := ⟨x.toNat, by omega⟩
  exact bounds_any9 D a bn ca cb l cz AX AY AZ xs ys zs vN cnt w hD hX hY hv ⟨ha, hb⟩ hZ (by omega)
end Go.Proofs.Ytpnklmgfdihjfaa
