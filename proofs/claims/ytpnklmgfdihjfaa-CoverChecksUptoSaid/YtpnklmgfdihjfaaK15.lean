/-
Contract of cover.Of. Printed by gen/scv.py.
Contracts of law29.great and of. Printed by gen/scv.py.
Contract of cover.denominator. Printed by gen/scv.py.
Contract of cover.product. Printed by gen/scv.py.
Contract of cover.checkSizes. Printed by gen/scv.py.
Contract of cover.bit.
-/
import Derived.Test.YtpnklmgfdihjfaaK13
import Derived.Test.YtpnklmgfdihjfaaK14
namespace Go.Proofs.Ytpnklmgfdihjfaa
open Go.RowKit
set_option linter.unusedVariables false
set_option linter.unusedSimpArgs false

set_option maxRecDepth 100000 in
set_option maxHeartbeats 8000000 in
theorem cvof_any (n : Int) (s len ce : Nat) (AE : Option Addr) (es : List Nat) (w : World) (hE : Es w w.heap.size AE len es) (hs : s < 4294967296) (hgr : checkCode n es = 0 → n ≤ 6 ∧ len ≤ 7) :
    Calls Try.prog 11 #[.agg #[.int .i64 n, .slice AE len ce], .int .u32 (s : Int)] w (RV w (CvOfR n es len s)) := by
  have HE0 := Lib.hid hE; have HS32 := Lib.hid hs; have HGr := Lib.hid hgr; clear hE hs hgr
  go_enter Try.func11, Try.ntmps11
  go_upto_region 1 with (fail)
  have hbw := bthen (al w (.cells #[.int .i64 n, .slice AE len ce] 24)) (al _ (.cells #[.slice none 0 0, .slice none 0 0, .bool false, .slice none 0 0, .slice none 0 0] 33)) (by simp)
  have HG := Lib.hid ((Blk.new w 24 #[.int .i64 n, .slice AE len ce]).keep (al _ (.cells #[.slice none 0 0, .slice none 0 0, .bool false, .slice none 0 0, .slice none 0 0] 33)))
  have H4 := Lib.hid (Blk.new (w.alloc (.cells #[.int .i64 n, .slice AE len ce] 24)) 33 #[.slice none 0 0, .slice none 0 0, .bool false, .slice none 0 0, .slice none 0 0])
  rw [show (w.alloc (.cells #[.int .i64 n, .slice AE len ce] 24)).heap.size = w.heap.size + 1 from by simp] at H4
  have HB := Lib.hid hbw
  clear hbw
  generalize (w.alloc (.cells #[.int .i64 n, .slice AE len ce] 24)).alloc (.cells #[.slice none 0 0, .slice none 0 0, .bool false, .slice none 0 0, .slice none 0 0] 33) = w1 at *
  obtain ⟨g2, hg2⟩ : ∃ g2, g2 = w.heap.size := ⟨_, rfl⟩
  obtain ⟨g4, hg4⟩ : ∃ g4, g4 = w.heap.size + 1 := ⟨_, rfl⟩
  rw [← hg4] at H4 ⊢
  rw [← hg2] at HG ⊢
  have HGg2 := Lib.hid (show w.heap.size ≤ g2 ∧ w.heap.size ≤ g4 from by omega)
  clear hg2 hg4
  have x0 := Blk.at0 HG.out (Below.refl _ _); have x1 := Blk.at1 HG.out (Below.refl _ _)
  go_wp2_with fail
  refine (check_any n AE es len ce w1 ((HE0.out.below HB.out).more HB.out.size)).mono ?_
  rintro e w2 ⟨rfl, hb⟩
  clear x0 x1
  replace HB := Lib.hid (bthen HB.out hb HB.out.size)
  replace HG := Lib.hid (HG.out.keep hb)
  replace H4 := Lib.hid (H4.out.keep hb)
  clear hb
  by_cases hc : checkCode n es = 0
  rotate_left
  · have t0 : (checkCode n es != 0) = true := by simpa using hc
    go_upto_region 3 with (fail)
    refine wp_region_joins (kss := [[], []]) [(6, .int .i64 ((checkCode n es)))] [EV (.agg #[.slice none 0 0, .slice none 0 0, .bool false, .slice none 0 0, .slice none 0 0]), EV (.int .i64 ((checkCode n es)))] 2 (by kernel_rfl) ⟨rfl, trivial⟩ [false, false] ?_ ?_ ?_
    · exact ⟨eI, eI, trivial⟩
    · refine ⟨?_, ?_, trivial⟩
      · exact fun aa ww hb he hd => ob_plain rfl (gives_built0 rfl built_cov0)
      · exact fun _ _ _ he hd => ob_mv rfl rfl he.1
    intro vs wz hb hR
    have e24 : vs 0 = .agg #[.slice none 0 0, .slice none 0 0, .bool false, .slice none 0 0, .slice none 0 0] := hR 0 (by decide)
    have e25 : vs 1 = .int .i64 ((checkCode n es)) := hR 1 (by decide)
    clear hR
    simp only [putsL, Nat.zero_add, Nat.reduceAdd, List.take_succ_cons, List.take_zero, Act.put, List.setIfInBounds_toArray, List.set_cons_zero, List.set_cons_succ]
    rw [e24, e25]
    clear e24 e25
    show wpOps _ _ _ [2, 3] _ _
    refine wpOps_next rfl rfl (store_cov rfl rfl rfl rfl (H4.out.keep hb) (by simp) (by simp [Value.oneCell']) ?_)
    intro wy kp hg hsz hX
    have HXa := Lib.hid hX
    have HBa := Lib.hid ((bthen HB.out hb HB.out.size).grown hg (bthen HB.out hb HB.out.size).size (fun x hx => by cases hx; exact HGg2.out.2))
    clear kp hg hsz hX hb
    refine wpOps_next rfl rfl (wp_assign 5 (.tmp 25) rfl rfl (.int .i64 (checkCode n es)) rfl ?_)
    simp only [Act.put, List.setIfInBounds_toArray, List.set_cons_zero, List.set_cons_succ]
    unfold wpOps
    go_wp2_with fail
    refine bodyPost_ret (v := .tuple #[.agg #[.slice none 0 0, .slice none 0 0, .bool false, .slice none 0 0, .slice none 0 0], .int .i64 (checkCode n es)]) (results_cell_tmp Try.results11 _ _ _ _ _ (0, 0) _ rfl HXa.out Try.underlying33 rfl rfl) rfl ?_
    exact ⟨_, rfl, ⟨fun _ => rfl, fun h => absurd h hc, fun h => absurd h hc, fun h => absurd h hc⟩, HBa.out⟩
  rw [hc]
  obtain ⟨h0, h32, hl64, hel⟩ := checkCode_zero hc
  obtain ⟨hn6, hl7⟩ := HGr.out hc
  obtain ⟨nn, rfl⟩ : ∃ nn : Nat, n = (nn : Int) := ⟨n.toNat, by omega⟩
  have HC := Lib.hid hc; have HEl := Lib.hid hel; clear hc hel h0 h32 hl64
  have x0 := Blk.at0 HG.out (Below.refl _ _); have x1 := Blk.at1 HG.out (Below.refl _ _)
  go_wp2_with fail
  refine (vertices_any nn len ce AE (by omega) w2).mono ?_
  rintro e w3 ⟨v, rfl, rfl, hb⟩
  clear x0 x1
  replace HB := Lib.hid (bthen HB.out hb HB.out.size)
  replace HG := Lib.hid (HG.out.keep hb)
  replace H4 := Lib.hid (H4.out.keep hb)
  clear hb
  have hpow : 2 ^ nn ≤ 64 := Nat.le_trans (Nat.pow_le_pow_right (by decide) (show nn ≤ 6 by omega)) (by decide)
  obtain ⟨mk, hmk⟩ : ∃ mk, mk = 2 ^ nn - 1 := ⟨_, rfl⟩
  rw [← hmk]
  have HMk := Lib.hid hmk
  have eand := bits_andNot s mk HS32.out (by omega)
  clear hmk hpow
  by_cases hr : andn s mk = 0
  rotate_left
  · have t0 : (((andn s mk : Nat) : Int) != 0) = true := by simp; omega
    go_upto_region 5 with (fail)
    refine wp_region_joins (kss := [[]]) [] [EV (.agg #[.slice none 0 0, .slice none 0 0, .bool false, .slice none 0 0, .slice none 0 0])] 1 (by kernel_rfl) trivial [false] ?_ ?_ ?_
    · exact ⟨eI, trivial⟩
    · refine ⟨?_, trivial⟩
      · exact fun aa ww hb he hd => ob_plain rfl (gives_built0 rfl built_cov0)
    intro vs wz hb hR
    have e31 : vs 0 = .agg #[.slice none 0 0, .slice none 0 0, .bool false, .slice none 0 0, .slice none 0 0] := hR 0 (by decide)
    clear hR
    simp only [putsL, Nat.zero_add, Nat.reduceAdd, List.take_succ_cons, List.take_zero, Act.put, List.setIfInBounds_toArray, List.set_cons_zero, List.set_cons_succ]
    rw [e31]
    clear e31
    show wpOps _ _ _ [1, 2] _ _
    refine wpOps_next rfl rfl (store_cov rfl rfl rfl rfl (H4.out.keep hb) (by simp) (by simp [Value.oneCell']) ?_)
    intro wy kp hg hsz hX
    have HXa := Lib.hid hX
    have HBa := Lib.hid ((bthen HB.out hb HB.out.size).grown hg (bthen HB.out hb HB.out.size).size (fun x hx => by cases hx; exact HGg2.out.2))
    clear kp hg hsz hX hb
    refine wpOps_next rfl rfl (wp_assign 5 (.const (.int .i64 3)) rfl rfl (.int .i64 3) rfl ?_)
    simp only [Act.put, List.setIfInBounds_toArray, List.set_cons_zero, List.set_cons_succ]
    unfold wpOps
    go_wp2_with fail
    refine bodyPost_ret (v := .tuple #[.agg #[.slice none 0 0, .slice none 0 0, .bool false, .slice none 0 0, .slice none 0 0], .int .i64 3]) (results_cell_tmp Try.results11 _ _ _ _ _ (0, 0) _ rfl HXa.out Try.underlying33 rfl rfl) rfl ?_
    exact ⟨_, rfl, ⟨fun h => absurd HC.out h, fun _ _ => rfl, fun _ h => absurd (by rw [HMk.out]; simpa using h) hr, fun _ h => absurd (by rw [HMk.out]; simpa using h) hr⟩, HBa.out⟩
  rw [hr] at eand
  have HR := Lib.hid hr; clear hr
  have x0 := Blk.at0 HG.out (Below.refl _ _); have x1 := Blk.at1 HG.out (Below.refl _ _)
  have hE3 := HE0.out.below HB.out
  go_wp2_with fail
  clear x0 x1 eand hE3
  go_loopg [35, 7] len (fun g iv ov wr => ∃ i : Nat, iv = .int .i64 i ∧ ov = .int .u32 ((orE es i : Nat) : Int) ∧ i + g = len ∧ Hid (Below w3.heap.size w3 wr))
  case atStart => exact ⟨0, rfl, rfl, by omega, Lib.hid (Below.refl _ _)⟩
  case round =>
    obtain ⟨i, rfl, rfl, hil, HBl⟩ := hrel
    have hes : ∀ e ∈ es, e < 4294967296 := HE0.out.2.2
    have hlen := HE0.out.len
    by_cases hi : i < len
    · have i1 : ((i : Int) < (len : Int)) := by omega
      obtain ⟨adE, rfl, -, hcE⟩ := (HE0.out.below (bthen HB.out HBl.out HB.out.size)).at_ hi
      have eor := bits_or (orE es i) (nth es i) (orE_lt hes i (by omega)) (HE0.out.lt hi)
      clear hes hlen
      go_wp2_with fail
      go_roundg (gk - 1)
      case measure => omega
      case rel => exact ⟨i + 1, by go_num, rfl, by omega, HBl⟩
    · obtain rfl : len = i := by omega
      obtain ⟨ors, hors⟩ : ∃ ors, ors = orE es len := ⟨_, rfl⟩
      rw [← hors]
      have eand := bits_andNot s ors HS32.out (by rw [hors]; exact orE_lt hes len (by omega))
      have HOr := Lib.hid (show ors = orE es len ∧ ors < 4294967296 from ⟨hors, by rw [hors]; exact orE_lt hes len (by omega)⟩)
      clear hors hes hlen
      obtain ⟨w4, hw4⟩ : ∃ w4, w4 = wr := ⟨_, rfl⟩
      subst hw4
      have hb := HBl.out; clear HBl
      replace HB := Lib.hid (bthen HB.out hb HB.out.size)
      replace HG := Lib.hid (HG.out.keep hb)
      replace H4 := Lib.hid (H4.out.keep hb)
      clear hb
      by_cases hcv : andn s ors = 0
      rotate_left
      · have t0 : (((andn s ors : Nat) : Int) != 0) = true := by simp; omega
        go_upto_region 13 with (fail)
        refine wp_region_joins (kss := [[]]) [] [EV (.agg #[.slice none 0 0, .slice none 0 0, .bool false, .slice none 0 0, .slice none 0 0])] 1 (by kernel_rfl) trivial [false] ?_ ?_ ?_
        · exact ⟨eI, trivial⟩
        · refine ⟨?_, trivial⟩
          · exact fun aa ww hb he hd => ob_plain rfl (gives_built0 rfl built_cov0)
        intro vs wz hb hR
        have e47 : vs 0 = .agg #[.slice none 0 0, .slice none 0 0, .bool false, .slice none 0 0, .slice none 0 0] := hR 0 (by decide)
        clear hR
        simp only [putsL, Nat.zero_add, Nat.reduceAdd, List.take_succ_cons, List.take_zero, Act.put, List.setIfInBounds_toArray, List.set_cons_zero, List.set_cons_succ]
        rw [e47]
        clear e47
        show wpOps _ _ _ [1, 2] _ _
        refine wpOps_next rfl rfl (store_cov rfl rfl rfl rfl (H4.out.keep hb) (by simp) (by simp [Value.oneCell']) ?_)
        intro wy kp hg hsz hX
        have HXa := Lib.hid hX
        have HBa := Lib.hid ((bthen HB.out hb HB.out.size).grown hg (bthen HB.out hb HB.out.size).size (fun x hx => by cases hx; exact HGg2.out.2))
        clear kp hg hsz hX hb
        refine wpOps_next rfl rfl (wp_assign 5 (.const (.int .i64 9)) rfl rfl (.int .i64 9) rfl ?_)
        simp only [Act.put, List.setIfInBounds_toArray, List.set_cons_zero, List.set_cons_succ]
        unfold wpOps
        go_wp2_with fail
        refine bodyPost_ret (v := .tuple #[.agg #[.slice none 0 0, .slice none 0 0, .bool false, .slice none 0 0, .slice none 0 0], .int .i64 9]) (results_cell_tmp Try.results11 _ _ _ _ _ (0, 0) _ rfl HXa.out Try.underlying33 rfl rfl) rfl ?_
        exact ⟨_, rfl, ⟨fun h => absurd HC.out h, fun _ h => absurd (by rw [← HR.out, HMk.out]; simp) h, fun _ _ _ => rfl, fun _ _ h => absurd (by rw [HOr.out.1]; exact h) hcv⟩, HBa.out⟩
      rw [hcv] at eand
      have HCv := Lib.hid hcv; clear hcv
      have x0 := Blk.at0 HG.out (Below.refl _ _); have x1 := Blk.at1 HG.out (Below.refl _ _)
      go_wp2_with fail
      refine (packing_any nn s len ce AE es w4 ((HE0.out.below HB.out).more HB.out.size) HS32.out (by omega) (by omega)).mono ?_
      rintro e w5 ⟨v, rfl, ⟨A2, c2, DA, da, DB, db, A1, c1, AF, cf, Dr, dp, rfl, hpr, hm, hf⟩, hb⟩
      clear x0 x1 eand
      replace HB := Lib.hid (bthen HB.out hb HB.out.size)
      replace HG := Lib.hid (HG.out.keep hb)
      replace H4 := Lib.hid (H4.out.keep hb)
      clear hb
      obtain ⟨kn, hkn⟩ : ∃ kn, kn = (memL s nn).length := ⟨_, rfl⟩
      obtain ⟨kf, hkf⟩ : ∃ kf, kf = (fstL (nth es) s len).length := ⟨_, rfl⟩
      rw [← hkn, ← hkf] at hpr
      rw [← hkn] at hm
      rw [← hkf] at hf
      rw [← hkn, ← hkf]
      have HKn := Lib.hid hkn; have HKf := Lib.hid hkf
      have hk6 : kn ≤ 6 := by rw [hkn]; exact Nat.le_trans (memL_len s nn) (by omega)
      have hk7 : kf ≤ 7 := by rw [hkf]; exact Nat.le_trans (fstL_len _ _ _) (by omega)
      clear hkn hkf
      have HPr := Lib.hid hpr; have HM := Lib.hid hm; have HFi := Lib.hid hf; clear hpr hm hf
      go_upto_region 15 with (fail)
      have hbw := al w5 (.cells #[.slice A2 kn c2, .slice DA kf da, .slice DB kf db] 75)
      have HPb := Lib.hid (Blk.new w5 75 #[.slice A2 kn c2, .slice DA kf da, .slice DB kf db])
      replace HB := Lib.hid (bthen HB.out hbw HB.out.size)
      replace HG := Lib.hid (HG.out.keep hbw)
      replace H4 := Lib.hid (H4.out.keep hbw)
      replace HPr := Lib.hid (HPr.out.new hbw)
      replace HM := Lib.hid ((HM.out.below hbw).more (Below.size hbw))
      replace HFi := Lib.hid ((HFi.out.below hbw).more (Below.size hbw))
      clear hbw
      generalize w5.alloc (.cells #[.slice A2 kn c2, .slice DA kf da, .slice DB kf db] 75) = w6 at *
      obtain ⟨g10, hg10⟩ : ∃ g10, g10 = w5.heap.size := ⟨_, rfl⟩
      rw [← hg10] at HPb ⊢
      have HGg10 := Lib.hid (show w5.heap.size ≤ g10 from by omega)
      clear hg10
      have y0 := Blk.at0 HPb.out (Below.refl _ _); have y1 := Blk.at1 HPb.out (Below.refl _ _); have y2 := Blk.at2 HPb.out (Below.refl _ _)
      go_wp2_with fail
      refine (Solve_ok kn kf (kn + kf + 2) 60 c2 da db A2 DA DB Dr (fun _ => kn) dp (cvA (nth es) s (memL s nn) (fstL (nth es) s len)) (fun _ => 1) (fun _ => 1) 1 1 w6 (HPr.out.more (by omega)) (fun _ _ => rfl) rfl (by omega) (by omega) (by omega) (by omega) (cv_frac _ _ _ _ _ _) (Nat.lt_of_le_of_lt (bitsT_mono hk7) (by decide))).mono ?_
      rintro e w7 ⟨v, rfl, ⟨u, q, rfl, hsI, hsv⟩, hb⟩
      clear y0 y1 y2
      clear HPr HPb
      replace HB := Lib.hid (bthen HB.out hb HB.out.size)
      replace HG := Lib.hid (HG.out.keep hb)
      replace H4 := Lib.hid (H4.out.keep hb)
      replace HM := Lib.hid ((HM.out.below hb).more (Below.size hb))
      replace HFi := Lib.hid ((HFi.out.below hb).more (Below.size hb))
      clear hb
      obtain ⟨AX, kX, cX, AY, kY, cY, AR, kR, cR, s1, A0, k0, c0, B0, m0, d0, rfl, hln, hX, hY, hR, hV⟩ := hsv
      have hct := hsI.cert
      rw [HKn.out, HKf.out] at hct
      have ho : q.out = 0 := cv_out (n := nn) (m := len) (fun x hx hb => orE_bit (k := len) (by have h := testBit_andn (a := s) (b := ors) (i := x) HOr.out.2 HS32.out; rw [HCv.out, Nat.zero_testBit, hb] at h; rw [← HOr.out.1]; simpa using h)) hct
      rw [ho] at hct
      have HOK := Lib.hid (cv_ok hct)
      obtain ⟨ekX, ekY⟩ : kX = kn ∧ kY = kf := by rcases hln with h | h | h <;> omega
      subst kX
      subst kY
      have HX := Lib.hid hX.toW; have HY := Lib.hid hY.toW; have HV := Lib.hid hV.rw; clear hX hY hR hV hln hsI hct ho
      go_upto_region 16 with (fail)
      have hbw := al w7 (.cells #[.int .i64 (q.out : Int), .slice AX kn cX, .slice AY kf cY, .slice AR kR cR, .bool s1, .slice A0 k0 c0, .slice B0 m0 d0] 79)
      have HZ := Lib.hid (Blk.new w7 79 #[.int .i64 (q.out : Int), .slice AX kn cX, .slice AY kf cY, .slice AR kR cR, .bool s1, .slice A0 k0 c0, .slice B0 m0 d0])
      replace HB := Lib.hid (bthen HB.out hbw HB.out.size)
      replace HG := Lib.hid (HG.out.keep hbw)
      replace H4 := Lib.hid (H4.out.keep hbw)
      replace HM := Lib.hid ((HM.out.below hbw).more (Below.size hbw))
      replace HFi := Lib.hid ((HFi.out.below hbw).more (Below.size hbw))
      replace HX := Lib.hid (Rs.newW HX.out hbw)
      replace HY := Lib.hid (Rs.newW HY.out hbw)
      replace HV := Lib.hid (HV.out.new hbw)
      clear hbw
      generalize w7.alloc (.cells #[.int .i64 (q.out : Int), .slice AX kn cX, .slice AY kf cY, .slice AR kR cR, .bool s1, .slice A0 k0 c0, .slice B0 m0 d0] 79) = w8 at *
      obtain ⟨g13, hg13⟩ : ∃ g13, g13 = w7.heap.size := ⟨_, rfl⟩
      rw [← hg13] at HZ ⊢
      have HGg13 := Lib.hid (show w7.heap.size ≤ g13 from by omega)
      clear hg13
      have HNb := Lib.hid (show g2 < w8.heap.size ∧ g4 < w8.heap.size ∧ g13 < w8.heap.size ∧ w.heap.size ≤ w8.heap.size ∧ w.heap.size ≤ g4 from ⟨HG.out.lt, H4.out.lt, HZ.out.lt, HB.out.size, HGg2.out.2⟩)
      go_upto_region 18 with (fail)
      refine wp_region_joinF (kss := [[], [(0, 64)], [(1, 65)], [(2, 66)], [], [(4, 68)], [(5, 69)], [], [(7, 71)], [(3, 67), (6, 70), (8, 72)], []]) [(2, .pointer (some ⟨g2, 0, none⟩)), (13, .pointer (some ⟨g13, 0, none⟩))] [EV (.pointer (some ⟨g2, 1, none⟩)), EV (.slice AE len ce), EV (.int .i64 ((len : Int))), fun zz w' => ∃ g, zz = .slice (some ⟨g, 0, none⟩) len len ∧ w8.heap.size ≤ g ∧ RB w' g len (PN w' 2 (fun _ => 0)), EV (.pointer (some ⟨g2, 0, none⟩)), EV (.int .i64 ((nn : Int))), fun zz w' => ∃ g, zz = .slice (some ⟨g, 0, none⟩) nn nn ∧ w8.heap.size ≤ g ∧ RB w' g nn (PN w' 2 (fun _ => 0)), EV (.pointer (some ⟨g13, 4, none⟩)), Rw (60) (q.v), fun zz w' => ∃ (gW gP : Nat) (s9 : Bool) (A9 : Option Addr) (k9 c9 : Nat) (B9 : Option Addr) (m9 d9 : Nat), zz = .agg #[.slice (some ⟨gW, 0, none⟩) len len, .slice (some ⟨gP, 0, none⟩) nn nn, .bool s9, .slice A9 k9 c9, .slice B9 m9 d9] ∧ gW ≠ gP ∧ w8.heap.size ≤ gW ∧ w8.heap.size ≤ gP ∧ RB w' gW len (PN w' 2 (fun _ => 0)) ∧ RB w' gP nn (PN w' 2 (fun _ => 0)) ∧ Rw 60 q.v (.agg #[.bool s9, .slice A9 k9 c9, .slice B9 m9 d9]) w', Zc w8.heap.size] 11 [] (by kernel_rfl) (by kernel_rfl) ⟨rfl, rfl, trivial⟩ [false, false, false, true, false, false, true, false, false, false, false] ?_ ?_ ?_ ?_
      · exact fun i hi => absurd hi (by simp)
      · exact ⟨eI, eI, eI, fun _ _ _ ⟨g, h1, h2, h3⟩ hb => ⟨g, h1, h2, h3.newN hb⟩, eI, eI, fun _ _ _ ⟨g, h1, h2, h3⟩ hb => ⟨g, h1, h2, h3.newN hb⟩, eI, fun _ _ _ h hb => h.new hb, fun _ _ _ ⟨gW, gP, s9, A9, k9, c9, B9, m9, d9, h1, h2, h3, h4, h5, h6, h7⟩ hb => ⟨gW, gP, s9, A9, k9, c9, B9, m9, d9, h1, h2, h3, h4, h5.newN hb, h6.newN hb, h7.new hb⟩, fun _ _ _ h hb => h.new hb, trivial⟩
      · refine ⟨?_, ?_, ?_, ?_, ?_, ?_, ?_, ?_, ?_, ?_, ?_, trivial⟩
        · exact fun aa ww hb he hd => ob_plain rfl (fld_hgr (k := 1) rfl (by decide) he.1)
        · exact fun aa ww hb he hd => ob_plain rfl (load_c38 rfl hd.1 (Blk.at1 HG.out hb))
        · exact fun aa ww hb he hd => ob_plain rfl (len_c Try.underlying22 rfl hd.1)
        · exact fun aa ww hb he hd => ⟨by simp [Region.wanted], gives_cvzeros rfl (by omega) hd.1 hb⟩
        · exact fun aa ww hb he hd => ob_plain rfl (fld_hgr (k := 0) rfl (by decide) he.1)
        · exact fun aa ww hb he hd => ob_plain rfl (load_c3 rfl hd.1 (Blk.at0 HG.out hb))
        · exact fun aa ww hb he hd => ⟨by simp [Region.wanted], gives_cvzeros rfl (by omega) hd.1 hb⟩
        · exact fun aa ww hb he hd => ob_plain rfl (fld_sol rfl (by decide) he.2.1)
        · exact fun aa ww hb he hd => ob_plain rfl (load_sv rfl hd.1 (Blk.keep HZ.out hb) (Rw.new HV.out hb))
        · exact fun aa ww hb he hd => ob_plain rfl (by obtain ⟨gW, e1, l1, q1⟩ := hd.1; obtain ⟨gP, e2, l2, q2⟩ := hd.2.1; have hv9 := hd.2.2.1; obtain ⟨s9, A9, k9, c9, B9, m9, d9, e3, -⟩ := hd.2.2.1; rw [e3] at hv9; have hne : gW ≠ gP := fun e => hd.2.2.2 (3, 67) (by simp) (6, 70) (by simp) (by decide) rfl rfl (by show blkOf (tv aa 67) = blkOf (tv aa 70); rw [e1, e2, e]; rfl); exact gives_mono (gives_built3 rfl e1 e2 e3 (built_cov3 _ _ _ _ _ _ _ _ _ _ _ _ _)) (fun v w' ⟨h1, h2⟩ => ⟨⟨gW, gP, s9, A9, k9, c9, B9, m9, d9, h1, hne, l1, l2, q1.newN h2, q2.newN h2, Rw.new hv9 h2⟩, h2⟩))
        · exact fun aa ww hb he hd => ob_plain rfl (alloc_cov rfl hb)
      intro vs w9 hb hR _
      have r15 : Zc w8.heap.size (vs 10) w9 := hR 10 (by decide)
      have r73 := hR 9 (by decide)
      clear hR
      simp only [putsL, Nat.zero_add, Nat.reduceAdd, List.take_succ_cons, List.take_zero, Act.put, List.setIfInBounds_toArray, List.set_cons_zero, List.set_cons_succ]
      obtain ⟨gW, gP, s9, A9, k9, c9, B9, m9, d9, e73, hneq, hlW, hlP, hrW, hrP, hv9⟩ := r73
      rw [e73]
      clear e73
      obtain ⟨g15, e15, hl15, hz15⟩ := r15
      rw [e15]
      clear e15
      show wpAny _ _ _ _ 1 _ _ _
      refine wpAny_next (i := 11) (by kernel_rfl) rfl rfl (store_cov rfl rfl rfl rfl hz15 (by simp) (by simp [Value.oneCell']) ?_)
      intro w10 kp hg hsz hC
      have ne15 : ∀ k, k < w8.heap.size → some k ≠ some g15 := fun k hk e => by injection e with e; omega
      have lt15 : ∀ k, some g15 = some k → w8.heap.size ≤ k := fun k e => by cases e; exact hl15
      obtain ⟨b0, hb0⟩ : ∃ b0, b0 = w8.heap.size := ⟨_, rfl⟩
      have hst : OfS w b0 g4 g13 g15 gW gP len nn kn kf s9 A9 k9 c9 B9 m9 d9 #[.int .i64 (q.out : Int), .slice AX kn cX, .slice AY kf cY, .slice AR kR cR, .bool s1, .slice A0 k0 c0, .slice B0 m0 d0] AX AY A1 AF q.X q.Y (memL s nn) (fstL (nth es) s len) q.v (fun _ => 0) (fun _ => 0) w10 := by
        rw [hb0]
        exact ⟨hC, (HZ.out.keep hb).grown hg (ne15 g13 HNb.out.2.2.1), (H4.out.keep hb).grown hg (ne15 g4 HNb.out.2.1), (Rs.grownB (Rs.grownB HX.out (only_of_below hb none) (Nat.le_refl _) (fun _ e => by cases e) (KeepsN.below hb)) hg hb.size lt15 kp), (Rs.grownB (Rs.grownB HY.out (only_of_below hb none) (Nat.le_refl _) (fun _ e => by cases e) (KeepsN.below hb)) hg hb.size lt15 kp), (HM.out.below hb).grown hg hb.size lt15, (HFi.out.below hb).grown hg hb.size lt15, ((hrW.mono (fun _ _ _ hv => Rw.more (Rv.rw hv) (by omega))).grown hg (RB.ne_ hrW hz15 (by decide)) (fun _ _ _ hv => PW.keep hv kp)), ((hrP.mono (fun _ _ _ hv => Rw.more (Rv.rw hv) (by omega))).grown hg (RB.ne_ hrP hz15 (by decide)) (fun _ _ _ hv => PW.keep hv kp)), hv9.keepN kp, (bthen HB.out hb HB.out.size).grown hg (bthen HB.out hb HB.out.size).size (fun k e => Nat.le_trans HNb.out.2.2.2.1 (lt15 k e)), ⟨hlW, hlP, hneq, HNb.out.2.2.2.1⟩, Nat.le_trans hb.size hg.size⟩
      have HS := Lib.hid hst
      have HG4 := Lib.hid HNb.out.2.2.2.2
      clear hst hb0 ne15 lt15 kp hg hsz hC hz15 hl15 hneq hlW hlP hrW hrP hv9 hb HX HY HV HM HFi HZ H4 HG HB HNb
      refine wpAny_end (by kernel_rfl) (calm_normal ?_) _
      go_wp2_with fail
      go_loopg [76] kn (fun g iv wr => ∃ i : Nat, iv = .int .i64 i ∧ i + g = kn ∧ Hid (OfS w b0 g4 g13 g15 gW gP len nn kn kf s9 A9 k9 c9 B9 m9 d9 #[.int .i64 (q.out : Int), .slice AX kn cX, .slice AY kf cY, .slice AR kR cR, .bool s1, .slice A0 k0 c0, .slice B0 m0 d0] AX AY A1 AF q.X q.Y (memL s nn) (fstL (nth es) s len) q.v (fun _ => 0) (putS (atL (memL s nn)) q.X i) wr))
      case atStart => exact ⟨0, rfl, by omega, Lib.hid HS.out⟩
      case round =>
        obtain ⟨i, rfl, hik, HI⟩ := hrel
        clear HS
        by_cases hi : i < kn
        · have i1 : ((i : Int) < (kn : Int)) := by omega
          obtain ⟨adM, uM, hAM, -, hxM, hcM⟩ := HI.out.m.at_ hi
          subst hAM
          have hiL : i < (memL s nn).length := by rw [← HKn.out]; exact hi
          rw [mints_at hiL] at hxM
          injection hxM with hxM
          subst hxM
          obtain ⟨vv, hvv⟩ : ∃ vv, vv = atL (memL s nn) i := ⟨_, rfl⟩
          rw [← hvv] at hcM
          have hvb : vv < nn := by rw [hvv]; exact (mem_memL.1 (atL_mem hiL)).1
          have HVv := Lib.hid hvv; clear hvv
          obtain ⟨adX, -, -, -, -, -, -, -, hAX, -⟩ := HI.out.x.at_ hi
          subst hAX
          go_upto_region 22 with (fail)
          clear hcM
          refine wp_region_join (kss := [[], [(0, 81)], [], [], [(3, 84)], [], [(4, 85), (5, 86)], [(6, 87)], [(1, 82), (2, 83)]]) [(15, .pointer (some ⟨g15, 0, none⟩)), (17, .int .i64 ((vv : Int))), (13, .pointer (some ⟨g13, 0, none⟩)), (16, .int .i64 ((i : Int)))] [EV (.pointer (some ⟨g15, 1, none⟩)), EV (.slice (some (⟨gP, 0, none⟩)) nn nn), EV (.int .i64 ((vv : Int))), EV (.pointer (some ⟨g13, 1, none⟩)), EV (.slice (some adX) kn cX), EV (.int .i64 ((i : Int))), EV (.pointer (some (Addr.add adX (i * 3)))), Rw (60) ((q.X) i), EV (.pointer (some (Addr.add (⟨gP, 0, none⟩) (vv * 3))))] 9 [] (by kernel_rfl) (by kernel_rfl) ⟨rfl, rfl, rfl, rfl, trivial⟩ [false, false, false, false, false, false, false, false, false] ?_ ?_ ?_ ?_
          · exact fun i hi => absurd hi (by simp)
          · exact ⟨eI, eI, eI, eI, eI, eI, eI, fun _ _ _ h hb => h.new hb, eI, trivial⟩
          · refine ⟨?_, ?_, ?_, ?_, ?_, ?_, ?_, ?_, ?_, trivial⟩
            · exact fun aa ww hb he hd => ob_plain rfl (fld_cov (k := 1) rfl (by decide) he.1)
            · exact fun aa ww hb he hd => ob_plain rfl (load_c28 rfl hd.1 (Blk.at1 HI.out.c hb))
            · exact fun _ _ _ he hd => ob_mv rfl rfl he.2.1
            · exact fun aa ww hb he hd => ob_plain rfl (fld_sol rfl (by decide) he.2.2.1)
            · exact fun aa ww hb he hd => ob_plain rfl (load_c28 rfl hd.1 (Blk.at1 HI.out.z hb))
            · exact fun _ _ _ he hd => ob_mv rfl rfl he.2.2.2.1
            · exact fun aa ww hb he hd => ob_plain rfl (idx_rs (by omega) rfl hd.1 hd.2.1)
            · exact fun aa ww hb he hd => ob_plain rfl (load_rw rfl hd.1 ((Rs.grownB HI.out.x (only_of_below hb none) HI.out.sz (fun _ e => by cases e) (KeepsN.below hb))) (by omega))
            · exact fun aa ww hb he hd => ob_plain rfl (idx_rs (by omega) rfl hd.1 hd.2.1)
          intro vs w11 hb hR _
          have r88 : Rw (60) ((q.X) i) (vs 7) w11 := hR 7 (by decide)
          have e89 : vs 8 = .pointer (some (Addr.add (⟨gP, 0, none⟩) (vv * 3))) := hR 8 (by decide)
          clear hR
          simp only [putsL, Nat.zero_add, Nat.reduceAdd, List.take_succ_cons, List.take_zero, Act.put, List.setIfInBounds_toArray, List.set_cons_zero, List.set_cons_succ]
          rw [e89]
          clear e89
          have HI2 := Lib.hid (HI.out.below hb)
          clear hb HI
          show wpAny _ _ _ _ 1 _ _ _
          refine wpAny_next (i := 9) (by kernel_rfl) rfl rfl (store_row rfl rfl rfl rfl HI2.out.P hvb r88 ?_)
          intro w12 kp hg hsz hR
          have e := putS_at (atL (memL s nn)) q.X (k := i) (fun j hj => atL_inj (memL_nodup s nn) hiL hj)
          have hN := hR (PW w12 60 (putS (atL (memL s nn)) q.X (i + 1))) (fun l u hl hne hv => by rw [← e]; show Rw 60 (if l = atL (memL s nn) i then q.X i else putS (atL (memL s nn)) q.X i l) u w12; rw [if_neg (by rw [← HVv.out]; exact hne)]; exact PW.keep hv kp) (by rw [← e]; show Rw 60 (if vv = atL (memL s nn) i then q.X i else putS (atL (memL s nn)) q.X i vv) _ w12; rw [if_pos HVv.out]; exact Rw.keepN r88 kp)
          have HI3 := Lib.hid (HI2.out.setP hg kp hN)
          clear e hN hR hg kp hsz HI2 r88
          refine wpAny_end (by kernel_rfl) (calm_normal ?_) _
          go_wp2_with fail
          go_roundg (gk - 1)
          case measure => omega
          case rel => exact ⟨i + 1, by go_num, by omega, HI3⟩
        · obtain rfl : kn = i := by omega
          have HS := Lib.hid HI.out
          clear HI
          go_wp2_with fail
          go_loopg [93] kf (fun g iv wr => ∃ i : Nat, iv = .int .i64 i ∧ i + g = kf ∧ Hid (OfS w b0 g4 g13 g15 gW gP len nn kn kf s9 A9 k9 c9 B9 m9 d9 #[.int .i64 (q.out : Int), .slice AX kn cX, .slice AY kf cY, .slice AR kR cR, .bool s1, .slice A0 k0 c0, .slice B0 m0 d0] AX AY A1 AF q.X q.Y (memL s nn) (fstL (nth es) s len) q.v (putS (atL (fstL (nth es) s len)) q.Y i) (putS (atL (memL s nn)) q.X kn) wr))
          case atStart => exact ⟨0, rfl, by omega, Lib.hid HS.out⟩
          case round =>
            obtain ⟨i, rfl, hik, HI⟩ := hrel
            clear HS
            by_cases hi : i < kf
            · have i1 : ((i : Int) < (kf : Int)) := by omega
              obtain ⟨adM, uM, hAM, -, hxM, hcM⟩ := HI.out.f.at_ hi
              subst hAM
              have hiL : i < (fstL (nth es) s len).length := by rw [← HKf.out]; exact hi
              rw [mints_at hiL] at hxM
              injection hxM with hxM
              subst hxM
              obtain ⟨vv, hvv⟩ : ∃ vv, vv = atL (fstL (nth es) s len) i := ⟨_, rfl⟩
              rw [← hvv] at hcM
              have hvb : vv < len := by rw [hvv]; exact fstL_lt (atL_mem hiL)
              have HVv := Lib.hid hvv; clear hvv
              obtain ⟨adX, -, -, -, -, -, -, -, hAX, -⟩ := HI.out.y.at_ hi
              subst hAX
              go_upto_region 27 with (fail)
              clear hcM
              refine wp_region_join (kss := [[], [(0, 98)], [], [], [(3, 101)], [], [(4, 102), (5, 103)], [(6, 104)], [(1, 99), (2, 100)]]) [(15, .pointer (some ⟨g15, 0, none⟩)), (19, .int .i64 ((vv : Int))), (13, .pointer (some ⟨g13, 0, none⟩)), (18, .int .i64 ((i : Int)))] [EV (.pointer (some ⟨g15, 0, none⟩)), EV (.slice (some (⟨gW, 0, none⟩)) len len), EV (.int .i64 ((vv : Int))), EV (.pointer (some ⟨g13, 2, none⟩)), EV (.slice (some adX) kf cY), EV (.int .i64 ((i : Int))), EV (.pointer (some (Addr.add adX (i * 3)))), Rw (60) ((q.Y) i), EV (.pointer (some (Addr.add (⟨gW, 0, none⟩) (vv * 3))))] 9 [] (by kernel_rfl) (by kernel_rfl) ⟨rfl, rfl, rfl, rfl, trivial⟩ [false, false, false, false, false, false, false, false, false] ?_ ?_ ?_ ?_
              · exact fun i hi => absurd hi (by simp)
              · exact ⟨eI, eI, eI, eI, eI, eI, eI, fun _ _ _ h hb => h.new hb, eI, trivial⟩
              · refine ⟨?_, ?_, ?_, ?_, ?_, ?_, ?_, ?_, ?_, trivial⟩
                · exact fun aa ww hb he hd => ob_plain rfl (fld_cov (k := 0) rfl (by decide) he.1)
                · exact fun aa ww hb he hd => ob_plain rfl (load_c28 rfl hd.1 (Blk.at0 HI.out.c hb))
                · exact fun _ _ _ he hd => ob_mv rfl rfl he.2.1
                · exact fun aa ww hb he hd => ob_plain rfl (fld_sol rfl (by decide) he.2.2.1)
                · exact fun aa ww hb he hd => ob_plain rfl (load_c28 rfl hd.1 (Blk.at2 HI.out.z hb))
                · exact fun _ _ _ he hd => ob_mv rfl rfl he.2.2.2.1
                · exact fun aa ww hb he hd => ob_plain rfl (idx_rs (by omega) rfl hd.1 hd.2.1)
                · exact fun aa ww hb he hd => ob_plain rfl (load_rw rfl hd.1 ((Rs.grownB HI.out.y (only_of_below hb none) HI.out.sz (fun _ e => by cases e) (KeepsN.below hb))) (by omega))
                · exact fun aa ww hb he hd => ob_plain rfl (idx_rs (by omega) rfl hd.1 hd.2.1)
              intro vs w11 hb hR _
              have r105 : Rw (60) ((q.Y) i) (vs 7) w11 := hR 7 (by decide)
              have e106 : vs 8 = .pointer (some (Addr.add (⟨gW, 0, none⟩) (vv * 3))) := hR 8 (by decide)
              clear hR
              simp only [putsL, Nat.zero_add, Nat.reduceAdd, List.take_succ_cons, List.take_zero, Act.put, List.setIfInBounds_toArray, List.set_cons_zero, List.set_cons_succ]
              rw [e106]
              clear e106
              have HI2 := Lib.hid (HI.out.below hb)
              clear hb HI
              show wpAny _ _ _ _ 1 _ _ _
              refine wpAny_next (i := 9) (by kernel_rfl) rfl rfl (store_row rfl rfl rfl rfl HI2.out.W hvb r105 ?_)
              intro w12 kp hg hsz hR
              have e := putS_at (atL (fstL (nth es) s len)) q.Y (k := i) (fun j hj => atL_inj (fstL_nodup _ _ _) hiL hj)
              have hN := hR (PW w12 60 (putS (atL (fstL (nth es) s len)) q.Y (i + 1))) (fun l u hl hne hv => by rw [← e]; show Rw 60 (if l = atL (fstL (nth es) s len) i then q.Y i else putS (atL (fstL (nth es) s len)) q.Y i l) u w12; rw [if_neg (by rw [← HVv.out]; exact hne)]; exact PW.keep hv kp) (by rw [← e]; show Rw 60 (if vv = atL (fstL (nth es) s len) i then q.Y i else putS (atL (fstL (nth es) s len)) q.Y i vv) _ w12; rw [if_pos HVv.out]; exact Rw.keepN r105 kp)
              have HI3 := Lib.hid (HI2.out.setW hg kp hN)
              clear e hN hR hg kp hsz HI2 r105
              refine wpAny_end (by kernel_rfl) (calm_normal ?_) _
              go_wp2_with fail
              go_roundg (gk - 1)
              case measure => omega
              case rel => exact ⟨i + 1, by go_num, by omega, HI3⟩
            · obtain rfl : kf = i := by omega
              go_upto_region 29 with (fail)
              refine wp_region_joins (kss := [[]]) [(15, .pointer (some ⟨g15, 0, none⟩))] [EV (.agg #[.slice (some ⟨gW, 0, none⟩) len len, .slice (some ⟨gP, 0, none⟩) nn nn, .bool s9, .slice A9 k9 c9, .slice B9 m9 d9])] 1 (by kernel_rfl) ⟨rfl, trivial⟩ [false] ?_ ?_ ?_
              · exact ⟨eI, trivial⟩
              · refine ⟨?_, trivial⟩
                · exact fun aa ww hb he hd => ob_plain rfl (load_cov rfl he.1 (Blk.keep HI.out.c hb))
              intro vs w13 hb hR
              have e108 : vs 0 = .agg #[.slice (some ⟨gW, 0, none⟩) len len, .slice (some ⟨gP, 0, none⟩) nn nn, .bool s9, .slice A9 k9 c9, .slice B9 m9 d9] := hR 0 (by decide)
              clear hR
              simp only [putsL, Nat.zero_add, Nat.reduceAdd, List.take_succ_cons, List.take_zero, Act.put, List.setIfInBounds_toArray, List.set_cons_zero, List.set_cons_succ]
              rw [e108]
              clear e108
              have HI2 := Lib.hid (HI.out.below hb)
              clear hb HI
              show wpOps _ _ _ [1, 2] _ _
              refine wpOps_next rfl rfl (store_cov rfl rfl rfl rfl HI2.out.h4 (by simp) (by simp [Value.oneCell']) ?_)
              intro w14 kp hg hsz hX
              have HXa := Lib.hid hX
              have HEnd := Lib.hid (HI2.out.fin hg kp HG4.out)
              clear kp hg hsz hX HI2
              refine wpOps_next rfl rfl (wp_assign 5 (.const (.int .i64 0)) rfl rfl (.int .i64 0) rfl ?_)
              simp only [Act.put, List.setIfInBounds_toArray, List.set_cons_zero, List.set_cons_succ]
              unfold wpOps
              go_wp2_with fail
              refine bodyPost_ret (v := .tuple #[.agg #[.slice (some ⟨gW, 0, none⟩) len len, .slice (some ⟨gP, 0, none⟩) nn nn, .bool s9, .slice A9 k9 c9, .slice B9 m9 d9], .int .i64 0]) (results_cell_tmp Try.results11 _ _ _ _ _ (0, 0) _ rfl HXa.out Try.underlying33 rfl rfl) rfl ?_
              have hOK := HOK.out
              rw [← HKn.out, ← HKf.out] at hOK
              exact ⟨_, rfl, ⟨fun h => absurd HC.out h, fun _ h => absurd (by rw [← HR.out, HMk.out]; simp) h, fun _ _ h => absurd (by rw [← HOr.out.1]; exact HCv.out) h, fun _ _ _ => ⟨_, rfl, _, _, _, hOK, HEnd.out.1⟩⟩, HEnd.out.2⟩
end Go.Proofs.Ytpnklmgfdihjfaa
namespace Go.Proofs.Ytpnklmgfdihjfaa
open Go.RowKit
set_option linter.unusedVariables false
set_option linter.unusedSimpArgs false

/-- What great's answer says. -/
def Grt (n : Int) (es : List Nat) (len : Nat) (t : Bool) : Prop := t = false → (checkCode n es = 0 → n ≤ 6 ∧ len ≤ 7) ∧ len ≤ 70
def GrV (n : Int) (es : List Nat) (len : Nat) (v : Value) : Prop := ∃ t, v = .bool t ∧ Grt n es len t
set_option maxRecDepth 100000 in
set_option maxHeartbeats 8000000 in
theorem great29_any (n : Int) (len ce : Nat) (AE : Option Addr) (es : List Nat) (w : World) (hE : Es w w.heap.size AE len es) :
    Calls Try.prog 9 #[.agg #[.int .i64 n, .slice AE len ce]] w (RV w (fun v _ => GrV n es len v)) := by
  have HE0 := Lib.hid hE; clear hE
  go_enter Try.func9, Try.ntmps9
  go_upto_region 1 with (fail)
  have hbw := al w (.cells #[.int .i64 n, .slice AE len ce] 24)
  have HG := Lib.hid (Blk.new w 24 #[.int .i64 n, .slice AE len ce])
  have HB := Lib.hid hbw
  clear hbw
  generalize w.alloc (.cells #[.int .i64 n, .slice AE len ce] 24) = w1 at *
  obtain ⟨g1, hg1⟩ : ∃ g1, g1 = w.heap.size := ⟨_, rfl⟩
  rw [← hg1] at HG ⊢
  have HGg1 := Lib.hid (show w.heap.size ≤ g1 from by omega)
  clear hg1
  have x0 := Blk.at0 HG.out (Below.refl _ _); have x1 := Blk.at1 HG.out (Below.refl _ _)
  go_wp2_with fail
  refine (check_any n AE es len ce w1 ((HE0.out.below HB.out).more HB.out.size)).mono ?_
  rintro e w2 ⟨rfl, hb⟩
  clear x0 x1
  replace HB := Lib.hid (bthen HB.out hb HB.out.size)
  replace HG := Lib.hid (HG.out.keep hb)
  clear hb
  have x0 := Blk.at0 HG.out (Below.refl _ _); have x1 := Blk.at1 HG.out (Below.refl _ _)
  by_cases hc : checkCode n es = 0
  · rw [hc]
    go_wp2_with fail
    all_goals go_ret
    all_goals refine ⟨_, rfl, ⟨_, rfl, ?_⟩, HB.out⟩
    all_goals (intro h; first | (cases h; done) | (simp at h; first | exact ⟨fun _ => ⟨by omega, by omega⟩, by omega⟩ | exact ⟨fun h => absurd h hc, by omega⟩) | exact ⟨fun _ => ⟨by omega, by omega⟩, by omega⟩ | exact ⟨fun h => absurd h hc, by omega⟩)
  · have t0 : (checkCode n es == 0) = false := by simpa using hc
    go_wp2_with fail
    all_goals go_ret
    all_goals refine ⟨_, rfl, ⟨_, rfl, ?_⟩, HB.out⟩
    all_goals (intro h; first | (cases h; done) | (simp at h; first | exact ⟨fun _ => ⟨by omega, by omega⟩, by omega⟩ | exact ⟨fun h => absurd h hc, by omega⟩) | exact ⟨fun _ => ⟨by omega, by omega⟩, by omega⟩ | exact ⟨fun h => absurd h hc, by omega⟩)
set_option maxRecDepth 100000 in
set_option maxHeartbeats 8000000 in
theorem of29_any (n d : Int) (hn : -1000000000 ≤ n ∧ n ≤ 1000000000) (hd : -1000000000 ≤ d ∧ d ≤ 1000000000) (hd0 : d ≠ 0) (w : World) : Calls Try.prog 23 #[.int .i64 n, .int .i64 d] w (RV w (Rv 2 ((n : Rat) / (d : Rat)))) := by
  have hq := qof_any n d (by omega) (by omega) (by omega) (by omega) (w := w.alloc (.cells #[.bool false, .slice none 0 0, .slice none 0 0] 31))
  go_enter Try.func23, Try.ntmps23
  go_upto_region 1 with (fail)
  have hbw := al w (.cells #[.bool false, .slice none 0 0, .slice none 0 0] 31)
  have H4 := Lib.hid (Blk.new w 31 #[.bool false, .slice none 0 0, .slice none 0 0])
  have HB := Lib.hid hbw
  clear hbw
  generalize w.alloc (.cells #[.bool false, .slice none 0 0, .slice none 0 0] 31) = w1 at *
  obtain ⟨g4, hg4⟩ : ∃ g4, g4 = w.heap.size := ⟨_, rfl⟩
  rw [← hg4] at H4 ⊢
  have HGg4 := Lib.hid (show w.heap.size ≤ g4 from by omega)
  clear hg4
  go_wp2_with fail
  refine (hq).mono ?_
  rintro e w2 ⟨-, h2⟩
  obtain ⟨s1, A1, k1, c1, B1, m1, d1, rfl, hr1, hb⟩ := h2 hd0
  clear hq h2
  have HR1 := Lib.hid (show Rv 2 ((n : Rat) / (d : Rat)) (.agg #[.bool s1, .slice A1 k1 c1, .slice B1 m1 d1]) w2 from ⟨_, _, _, _, _, _, _, rfl, hr1⟩)
  clear hr1
  replace HB := Lib.hid (bthen HB.out hb HB.out.size)
  replace H4 := Lib.hid (H4.out.keep hb)
  clear hb
  go_upto_region 2 with (fail)
  have hbw := al w2 (.cells #[.bool s1, .slice A1 k1 c1, .slice B1 m1 d1] 31)
  have HX := Lib.hid (Blk.new w2 31 #[.bool s1, .slice A1 k1 c1, .slice B1 m1 d1])
  replace HB := Lib.hid (bthen HB.out hbw HB.out.size)
  replace H4 := Lib.hid (H4.out.keep hbw)
  replace HR1 := Lib.hid (HR1.out.new hbw)
  clear hbw
  generalize w2.alloc (.cells #[.bool s1, .slice A1 k1 c1, .slice B1 m1 d1] 31) = w3 at *
  obtain ⟨g5, hg5⟩ : ∃ g5, g5 = w2.heap.size := ⟨_, rfl⟩
  rw [← hg5] at HX ⊢
  have HGg5 := Lib.hid (show w2.heap.size ≤ g5 from by omega)
  clear hg5
  have HXn := Lib.hid (show Bn 2 ((n : Rat) / (d : Rat)) g5 w3 from by obtain ⟨a1, a2, a3, a4, a5, a6, a7, e, h⟩ := HR1.out; cases e; exact ⟨_, _, _, _, _, _, _, HX.out, h⟩)
  refine wp_region_joins (kss := [[]]) [(5, .pointer (some ⟨g5, 0, none⟩))] [Rv (2) ((n : Rat) / (d : Rat))] 1 (by kernel_rfl) ⟨rfl, trivial⟩ [false] ?_ ?_ ?_
  · exact ⟨fun _ _ _ h hb => h.new hb, trivial⟩
  · refine ⟨?_, trivial⟩
    · exact fun aa ww hb he hd => ob_plain rfl (load_bn rfl he.1 (Bn.new HXn.out hb))
  intro vs w5 hb hR
  have r13 : Rv (2) ((n : Rat) / (d : Rat)) (vs 0) w5 := hR 0 (by decide)
  clear hR
  simp only [putsL, Nat.zero_add, Nat.reduceAdd, List.take_succ_cons, List.take_zero, Act.put, List.setIfInBounds_toArray, List.set_cons_zero, List.set_cons_succ]
  have R13 := Lib.hid r13
  obtain ⟨s2, A2, k2, c2, B2, m2, d2, e13, -⟩ := r13
  rw [e13] at R13 ⊢
  clear e13
  show wpOps _ _ _ [1] _ _
  refine wpOps_next rfl rfl (store_ratk rfl rfl rfl rfl (H4.out.keep hb) (by simp) (by simp [Value.oneCell']) (by simp) ?_)
  intro w6 kp hg hsz hB
  have HBb := Lib.hid hB; have HV := Lib.hid (R13.out.keepN kp)
  have HBf := Lib.hid ((bthen HB.out hb HB.out.size).grown hg (bthen HB.out hb HB.out.size).size (fun x hx => by cases hx; exact HGg4.out))
  clear kp hg hsz hB hb R13
  unfold wpOps
  go_wp2_with fail
  refine bodyPost_ret (v := .agg #[.bool s2, .slice A2 k2 c2, .slice B2 m2 d2]) (results_cell_row Try.results23 _ _ _ _ _ (0, 0) _ rfl HBb.out Try.underlying31 rfl rfl) rfl ?_
  exact ⟨_, rfl, HV.out, HBf.out⟩
end Go.Proofs.Ytpnklmgfdihjfaa
namespace Go.Proofs.Ytpnklmgfdihjfaa
open Go.RowKit
set_option linter.unusedVariables false
set_option linter.unusedSimpArgs false

set_option maxRecDepth 100000 in
set_option maxHeartbeats 8000000 in
theorem denom1_any (i g b a D : Nat) (x : Rat) (AD : Option Addr) (nD cD : Nat) (v : Value) (w : World) (hD : Blk w g 29 #[.slice AD nD cD]) (hN : Num w AD nD cD a D) (hv : Rw b x v w) (hD0 : D ≠ 0) (hab : 1 ≤ a ∧ a + b ≤ 4900) :
    Calls Try.prog 76 (#[.int .i64 (i : Int), v] ++ #[.pointer (some ⟨g, 0, none⟩)]) w (fun e w' => e = .returned (.tuple #[]) ∧ (∃ (A' : Option Addr) (n' c' : Nat), Blk w' g 29 #[.slice A' n' c'] ∧ Num w' A' n' c' (a + b) (Nat.lcm D x.den)) ∧ w.grownBy w' (some g) ∧ KeepsN w w') := by
  have HD := Lib.hid hD; have HN := Lib.hid hN; have HV := Lib.hid hv; clear hD hN
  have hfd := fldR2
  obtain ⟨s0, A0, k0, c0, B0, m0, d0, rfl, -⟩ := hv
  show Calls Try.prog 76 #[.int .i64 (i : Int), .agg #[.bool s0, .slice A0 k0 c0, .slice B0 m0 d0], .pointer (some ⟨g, 0, none⟩)] w _
  have HGl := Lib.hid HD.out.lt
  go_enter Try.func76, Try.ntmps76
  go_upto_region 1 with (fail)
  have hbw := al w (.cells #[.bool s0, .slice A0 k0 c0, .slice B0 m0 d0] 31)
  have HY := Lib.hid (Blk.new w 31 #[.bool s0, .slice A0 k0 c0, .slice B0 m0 d0])
  have HB := Lib.hid hbw
  replace HD := Lib.hid (HD.out.keep hbw)
  replace HN := Lib.hid (HN.out.new hbw)
  replace HV := Lib.hid (HV.out.new hbw)
  clear hbw
  generalize w.alloc (.cells #[.bool s0, .slice A0 k0 c0, .slice B0 m0 d0] 31) = w1 at *
  obtain ⟨g6, hg6⟩ : ∃ g6, g6 = w.heap.size := ⟨_, rfl⟩
  rw [← hg6] at HY ⊢
  have HGg6 := Lib.hid (show w.heap.size ≤ g6 from by omega)
  clear hg6
  have x0 := Blk.at0 HY.out (Below.refl _ _); have x1 := Blk.at1 HY.out (Below.refl _ _); have x2 := Blk.at2 HY.out (Below.refl _ _)
  go_wp2_with fail
  refine (norm_v HV.out (by omega)).mono ?_
  rintro e w2 ⟨v, rfl, ⟨s1, A1, k1, c1, B1, m1, d1, rfl, hr1⟩, hb⟩
  have HDn := Lib.hid hr1.2.2.1
  clear hr1 x0 x1 x2
  replace HD := Lib.hid (HD.out.keep hb)
  replace HN := Lib.hid (HN.out.new hb)
  replace HV := Lib.hid (HV.out.new hb)
  replace HB := Lib.hid (bthen HB.out hb HB.out.size)
  replace HY := Lib.hid (HY.out.keep hb)
  clear hb
  go_upto_region 2 with (fail)
  clear hfd
  refine wp_region_each (kss := [[], [], [], [(1, 14), (2, 15)], [(0, 13), (3, 16)], [(4, 17)], [(5, 12)], [(5, 12)], [(5, 12)], [(6, 18)], [(7, 19)], [(8, 20)]]) [(2, .pointer (some ⟨g, 0, none⟩)), (5, .slice B1 m1 d1)] [Nv (a) (D), Nv (a) (D), Nv (b) (x.den), Nv (a + b) (Nat.gcd D (x.den)), DmV (a) (D / (Nat.gcd D (x.den))), DmV (a) (D / (Nat.gcd D (x.den))), Nv (a) (D / (Nat.gcd D (x.den))), fun _ _ => True, fun _ _ => True, Nv (a) (D / (Nat.gcd D (x.den))), fun _ _ => True, fun _ _ => True] (by kernel_rfl) (by kernel_rfl) ⟨rfl, rfl, trivial⟩ ?_ ?_ ?_
  · exact ⟨fun _ _ _ h hb => Nv.new h hb, fun _ _ _ h hb => Nv.new h hb, fun _ _ _ h hb => Nv.new h hb, fun _ _ _ h hb => Nv.new h hb, fun _ _ _ h hb => DmV.new h hb, fun _ _ _ h hb => DmV.new h hb, fun _ _ _ h hb => Nv.new h hb, fun _ _ _ _ _ => trivial, fun _ _ _ _ _ => trivial, fun _ _ _ h hb => Nv.new h hb, fun _ _ _ _ _ => trivial, fun _ _ _ _ _ => trivial, trivial⟩
  · refine ⟨?_, ?_, ?_, ?_, ?_, ?_, ?_, ?_, ?_, ?_, ?_, ?_, trivial⟩
    · exact fun aa ww hb he hd => ob_plain rfl (load_nv rfl he.1 (Blk.keep HD.out hb) (Num.new HN.out hb))
    · exact fun aa ww hb he hd => ob_plain rfl (load_nv rfl he.1 (Blk.keep HD.out hb) (Num.new HN.out hb))
    · exact fun aa ww hb he hd => ob_plain rfl (gives_move _ rfl ⟨⟨_, _, _, he.2.1, HDn.out.new hb⟩, Below.refl _ _⟩)
    · exact fun aa ww hb he hd => ob_plain rfl (gives_call2 _ _ _ _ rfl (by kernel_rfl) (gcd_nv hd.1 hd.2.1 (by omega)))
    · exact fun aa ww hb he hd => ob_plain rfl (gives_call2 _ _ _ _ rfl (by kernel_rfl) (quo_nv hd.1 hd.2.1 (fun h => hD0 (Nat.gcd_eq_zero_iff.1 h).1) (by omega) (by omega)))
    · exact fun _ _ _ he hd => ob_mv rfl rfl hd.1
    · exact fun aa ww hb he hd => ob_plain rfl (ext_dm rfl hd.1)
    · exact fun aa ww hb he hd => ob_plain rfl (ext_dm1 rfl hd.1)
    · exact fun aa ww hb he hd => ob_plain rfl (ext_dm2 rfl hd.1)
    · exact fun aa ww hb he hd => ob_plain rfl (gives_assign _ rfl ⟨hd.1, Below.refl _ _⟩)
    · exact fun aa ww hb he hd => ob_plain rfl (gives_assign _ rfl ⟨hd.1, Below.refl _ _⟩)
    · exact fun aa ww hb he hd => ob_plain rfl (gives_assign _ rfl ⟨hd.1, Below.refl _ _⟩)
  intro vs w3 hb hR
  have r6 : Nv (a) (D / (Nat.gcd D (x.den))) (vs 9) w3 := hR 9 (by decide)
  clear hR
  simp only [putsL, Nat.zero_add, Nat.reduceAdd, List.take_succ_cons, List.take_zero, Act.put, List.setIfInBounds_toArray, List.set_cons_zero, List.set_cons_succ]
  obtain ⟨A2, k2, c2, e6, hq⟩ := r6
  rw [e6]
  clear e6
  have HQ := Lib.hid hq; clear hq
  replace HD := Lib.hid (HD.out.keep hb)
  replace HN := Lib.hid (HN.out.new hb)
  replace HV := Lib.hid (HV.out.new hb)
  replace HB := Lib.hid (bthen HB.out hb HB.out.size)
  replace HY := Lib.hid (HY.out.keep hb)
  replace HDn := Lib.hid (HDn.out.new hb)
  clear hb
  have x0 := Blk.at0 HD.out (Below.refl _ _)
  go_wp2_with fail
  refine (mul_n HQ.out HDn.out (by omega)).mono ?_
  rintro e w4 ⟨A3, k3, c3, rfl, h3, -, hb⟩
  rw [lcm_div] at h3
  have HR := Lib.hid h3; clear h3 x0
  replace HD := Lib.hid (HD.out.keep hb)
  replace HN := Lib.hid (HN.out.new hb)
  replace HV := Lib.hid (HV.out.new hb)
  replace HB := Lib.hid (bthen HB.out hb HB.out.size)
  replace HY := Lib.hid (HY.out.keep hb)
  replace HDn := Lib.hid (HDn.out.new hb)
  clear hb
  have c0 := Blk.at0 HD.out (Below.refl _ _)
  have f0 := HD.out.frozen 0
  have kn := KeepsN.blk HD.out (i := 0) (by show 0 < 1; omega) (by intro x; simp) (.slice A3 k3 c3)
  go_wp2_with fail
  refine bodyPost_end (results_none rfl _ _ _) rfl ⟨rfl, ⟨A3, k3, c3, HD.out.set_ 0 _, (HR.out.up (Nat.lt_of_le_of_lt (lcm_le _ _) (PB_mul HN.out.2.2.2.1 HDn.out.2.2.2.1)) (by omega)).keepN kn⟩, only_setCell (only_of_below HB.out _) (.inl rfl) _, (KeepsN.below HB.out).trans kn⟩
/-- The state of denominator's visit. -/
structure DenJ (X : Nat → Rat) (b : Nat) (A : Option Addr) (n g : Nat) (w0 : World) (i : Nat) (w : World) : Prop where
  a : Rs w w0.heap.size A n (PW w b X)
  d : ∃ (A' : Option Addr) (n' c' : Nat), Blk w g 29 #[.slice A' n' c'] ∧ Num w A' n' c' 2 (dlcm X i)
  hb : Below w0.heap.size w0 w
theorem DenJ.below {X : Nat → Rat} {b n g i : Nat} {A : Option Addr} {w0 w w' : World} (h : DenJ X b A n g w0 i w) (hb : Below w.heap.size w w') : DenJ X b A n g w0 i w' := by
  obtain ⟨A', n', c', h1, h2⟩ := h.d
  exact ⟨Rs.grownB h.a (only_of_below hb none) h.hb.size (fun _ e => by cases e) (KeepsN.below hb), ⟨A', n', c', h1.keep hb, h2.new hb⟩, bthen h.hb hb h.hb.size⟩
set_option maxRecDepth 100000 in
set_option maxHeartbeats 8000000 in
theorem denom_any (n c b : Nat) (A : Option Addr) (X : Nat → Rat) (w : World) (hA : Rs w w.heap.size A n (PW w b X)) (hn : n ≤ 1000) (hb : 2 + b ≤ 4900) (hD : dlcm X n < PB 2) : Calls Try.prog 42 #[.slice A n c] w (RetN1 w 2 (dlcm X n)) := by
  have HA0 := Lib.hid hA; clear hA
  have hK2 : Enters 76 := enters (by kernel_rfl)
  go_enter Try.func42, Try.ntmps42
  go_upto_region 1 with (fail)
  go_wp2_with fail
  refine (of_n 1 (by omega) _).mono ?_
  rintro e w1 ⟨A1, n1, c1, rfl, h1, -, hb⟩
  have HN := Lib.hid h1; clear h1
  have HB := Lib.hid hb; have HS1 := Lib.hid hb.size; clear hb
  go_upto_region 2 with (fail)
  have hbw := al w1 (.cells #[.slice A1 n1 c1] 29)
  have HD := Lib.hid (Blk.new w1 29 #[.slice A1 n1 c1])
  replace HN := Lib.hid (HN.out.new hbw)
  replace HB := Lib.hid (bthen HB.out hbw HB.out.size)
  clear hbw
  generalize w1.alloc (.cells #[.slice A1 n1 c1] 29) = w2 at *
  obtain ⟨g3, hg3⟩ : ∃ g3, g3 = w1.heap.size := ⟨_, rfl⟩
  rw [← hg3] at HD ⊢
  have HGg3 := Lib.hid (show w1.heap.size ≤ g3 from by omega)
  clear hg3
  have HGl := Lib.hid (show w.heap.size ≤ g3 from by have := HS1.out; have := HGg3.out; omega)
  go_wp2_with fail
  refine (visit_any 76 hK2 #[.pointer (some ⟨g3, 0, none⟩)] n c b A X (DenJ X b A n g3 w) (fun i w' h => Rs.moreB h.a h.hb.size) (fun i w' w'' h hb => h.below hb) (fun i w' v hi h hv => ?_) (by omega) w2 ⟨Rs.grownB HA0.out (only_of_below HB.out none) (Nat.le_refl _) (fun _ e => by cases e) (KeepsN.below HB.out), ⟨A1, n1, c1, HD.out, HN.out⟩, HB.out⟩).mono ?_
  · obtain ⟨A3, n3, c3, h3, h4⟩ := h.d
    refine (denom1_any i g3 b 2 _ (X i) A3 n3 c3 v w' h3 h4 hv (dlcm_ne X i) ⟨by omega, hb⟩).mono ?_
    rintro e w3 ⟨rfl, ⟨A14, n4, c4, h5, h6⟩, hg, kp⟩
    exact ⟨rfl, Rs.grownB h.a hg h.hb.size (fun k e => by cases e; exact HGl.out) kp, ⟨A14, n4, c4, h5, h6.up (Nat.lt_of_le_of_lt (show dlcm X (i + 1) ≤ dlcm X n from dlcm_le (by omega)) hD) (by omega)⟩, h.hb.grown hg h.hb.size (fun k e => by cases e; exact HGl.out)⟩
  rintro e w4 ⟨rfl, hj⟩
  have HJ := Lib.hid hj; clear hj
  obtain ⟨A5, n5, c5, h5, h6⟩ := HJ.out.d
  have x0 := Blk.at0 h5 (Below.refl _ _)
  have HN5 := Lib.hid h6; clear h5 h6
  go_wp2_with fail
  go_ret
  exact ⟨_, _, _, rfl, HN5.out, HJ.out.hb⟩
end Go.Proofs.Ytpnklmgfdihjfaa
namespace Go.Proofs.Ytpnklmgfdihjfaa
open Go.RowKit
set_option linter.unusedVariables false
set_option linter.unusedSimpArgs false

theorem pb_le {b e : Nat} (h : 32 * b ≤ e) : PB b ≤ 2 ^ e := by
  unfold PB
  rw [show (4294967296 : Nat) = 2 ^ 32 from rfl, ← Nat.pow_mul]
  exact Nat.pow_le_pow_right (by decide) h
theorem big60 : PB 60 ≤ bigP := by
  rw [bigP]
  exact pb_le (by rw [bigE_eq]; decide)
set_option maxRecDepth 100000 in
set_option maxHeartbeats 8000000 in
theorem prod1_any (i b r D P l cx gE gd gs gr : Nat) (x : Rat) (xs : List Int) (AX AD AR : Option Addr) (nD cD nR cR : Nat) (v : Value) (w : World) (hE : Blk w gE 34 #[.int .i64 0]) (hD : Blk w gd 29 #[.slice AD nD cD]) (hDN : Num w AD nD cD 2 D)
    (hS : Blk w gs 45 #[.slice AX l cx]) (hX : Xs w w.heap.size AX l xs) (hR : Blk w gr 29 #[.slice AR nR cR]) (hRN : Num w AR nR cR r P) (hv : Rw b x v w) (hi : i < l) (hxi : 0 ≤ inth xs i ∧ inth xs i ≤ 1000000) (hM : expW x D ≤ 1000) (hf : (inth xs i).toNat ^ expW x D < PB 60) (hab : 1 ≤ r ∧ r + 60 ≤ 10000 ∧ b + 2 ≤ 4900) :
    Calls Try.prog 79 (#[.int .i64 (i : Int), v] ++ #[.pointer (some ⟨gE, 0, none⟩), .pointer (some ⟨gd, 0, none⟩), .pointer (some ⟨gs, 0, none⟩), .pointer (some ⟨gr, 0, none⟩)]) w (fun e w' => e = .returned (.tuple #[]) ∧ (∃ (A' : Option Addr) (n' c' : Nat), Blk w' gr 29 #[.slice A' n' c'] ∧ Num w' A' n' c' (r + 60) (P * (inth xs i).toNat ^ expW x D)) ∧ w.grownBy w' (some gr) ∧ KeepsN w w') := by
  have HE := Lib.hid hE; have HD := Lib.hid hD; have HDN := Lib.hid hDN; have HS := Lib.hid hS; have HX := Lib.hid hX; have HR := Lib.hid hR; have HRN := Lib.hid hRN; have HV := Lib.hid hv
  have HM := Lib.hid hM; have HF := Lib.hid hf
  clear hE hD hDN hS hX hR hRN hM hf
  obtain ⟨s0, A0, k0, c0, B0, m0, d0, rfl, -⟩ := hv
  show Calls Try.prog 79 #[.int .i64 (i : Int), .agg #[.bool s0, .slice A0 k0 c0, .slice B0 m0 d0], .pointer (some ⟨gE, 0, none⟩), .pointer (some ⟨gd, 0, none⟩), .pointer (some ⟨gs, 0, none⟩), .pointer (some ⟨gr, 0, none⟩)] w _
  have HGl := Lib.hid (show gE < w.heap.size ∧ gd < w.heap.size ∧ gs < w.heap.size ∧ gr < w.heap.size from ⟨HE.out.lt, HD.out.lt, HS.out.lt, HR.out.lt⟩)
  go_enter Try.func79, Try.ntmps79
  go_upto_region 1 with (fail)
  have hbw := al w (.cells #[.bool s0, .slice A0 k0 c0, .slice B0 m0 d0] 31)
  have HY := Lib.hid (Blk.new w 31 #[.bool s0, .slice A0 k0 c0, .slice B0 m0 d0])
  have HB := Lib.hid hbw
  replace HE := Lib.hid (HE.out.keep hbw)
  replace HD := Lib.hid (HD.out.keep hbw)
  replace HDN := Lib.hid (HDN.out.new hbw)
  replace HS := Lib.hid (HS.out.keep hbw)
  replace HX := Lib.hid ((HX.out.below hbw).more (Below.size hbw))
  replace HR := Lib.hid (HR.out.keep hbw)
  replace HRN := Lib.hid (HRN.out.new hbw)
  replace HV := Lib.hid (HV.out.new hbw)
  clear hbw
  generalize w.alloc (.cells #[.bool s0, .slice A0 k0 c0, .slice B0 m0 d0] 31) = w1 at *
  obtain ⟨g6, hg6⟩ : ∃ g6, g6 = w.heap.size := ⟨_, rfl⟩
  rw [← hg6] at HY ⊢
  have HGg6 := Lib.hid (show w.heap.size ≤ g6 from by omega)
  clear hg6
  have x0 := Blk.at0 HE.out (Below.refl _ _)
  have HYb := Lib.hid (show Bx b x g6 w1 from by obtain ⟨s1, A1, n1, c1, B1, m1, d1, e, h⟩ := HV.out; cases e; exact ⟨_, _, _, _, _, _, _, HY.out, h⟩)
  go_upto_region 2 with (fail)
  clear x0
  refine wp_region_each (kss := [[], [], [(1, 14)], [(0, 13), (2, 15)], [(3, 16)], [(4, 17)], [(5, 18)]]) [(7, .pointer (some ⟨g6, 0, none⟩)), (3, .pointer (some ⟨gd, 0, none⟩))] [Rw (b) (x), Nv (2) (D), Rv (2) (((D : Nat) : Rat)), Rv (b + 2) (x * (((D : Nat) : Rat))), Rv ((b + 2)) ((x * (((D : Nat) : Rat)))), Nv ((b + 2)) (((x * (((D : Nat) : Rat)))).num.natAbs), Nv ((b + 2)) (((x * (((D : Nat) : Rat)))).num.natAbs)] (by kernel_rfl) (by kernel_rfl) ⟨rfl, rfl, trivial⟩ ?_ ?_ ?_
  · exact ⟨fun _ _ _ h hb => h.new hb, fun _ _ _ h hb => Nv.new h hb, fun _ _ _ h hb => h.new hb, fun _ _ _ h hb => h.new hb, fun _ _ _ h hb => h.new hb, fun _ _ _ h hb => Nv.new h hb, fun _ _ _ h hb => Nv.new h hb, trivial⟩
  · refine ⟨?_, ?_, ?_, ?_, ?_, ?_, ?_, trivial⟩
    · exact fun aa ww hb he hd => ob_plain rfl (load_bx rfl he.1 (Bx.new HYb.out hb))
    · exact fun aa ww hb he hd => ob_plain rfl (load_nv rfl he.2.1 (Blk.keep HD.out hb) (Num.new HDN.out hb))
    · exact fun aa ww hb he hd => ob_plain rfl (gives_call1 _ _ _ rfl (by kernel_rfl) (fromnat_v hd.1 (by omega)))
    · exact fun aa ww hb he hd => ob_plain rfl (gives_call2 _ _ _ _ rfl (by kernel_rfl) (mul_v (hd.1) (hd.2.1.rw) (by omega)))
    · exact fun aa ww hb he hd => ob_plain rfl (gives_call1 _ _ _ rfl (by kernel_rfl) (norm_v (hd.1.rw) (by omega)))
    · exact fun aa ww hb he hd => ob_plain rfl (fld_num rfl hd.1)
    · exact fun aa ww hb he hd => ob_plain rfl (gives_assign _ rfl ⟨hd.1, Below.refl _ _⟩)
  intro vs w2 hb hR
  have r8 : Nv ((b + 2)) (((x * (((D : Nat) : Rat)))).num.natAbs) (vs 6) w2 := hR 6 (by decide)
  clear hR
  simp only [putsL, Nat.zero_add, Nat.reduceAdd, List.take_succ_cons, List.take_zero, Act.put, List.setIfInBounds_toArray, List.set_cons_zero, List.set_cons_succ]
  obtain ⟨A2, k2, c2, e8, hq⟩ := r8
  rw [e8]
  clear e8
  have HQ := Lib.hid (show Num w2 A2 k2 c2 (b + 2) (expW x D) from hq); clear hq
  replace HE := Lib.hid (HE.out.keep hb)
  replace HD := Lib.hid (HD.out.keep hb)
  replace HDN := Lib.hid (HDN.out.new hb)
  replace HS := Lib.hid (HS.out.keep hb)
  replace HX := Lib.hid ((HX.out.below hb).more (Below.size hb))
  replace HR := Lib.hid (HR.out.keep hb)
  replace HRN := Lib.hid (HRN.out.new hb)
  replace HV := Lib.hid (HV.out.new hb)
  replace HB := Lib.hid (bthen HB.out hb HB.out.size)
  replace HY := Lib.hid (HY.out.keep hb)
  replace HYb := Lib.hid (HYb.out.new hb)
  clear hb
  obtain ⟨z, hz⟩ : ∃ z : Nat, z = (inth xs i).toNat := ⟨_, rfl⟩
  have hzi : inth xs i = (z : Int) := by omega
  rw [← hz] at HF
  have HZt := Lib.hid hz
  obtain ⟨adX, rfl, -, hcX⟩ := HX.out.at_ hi
  rw [hzi] at hcX
  have hz6 : z ≤ 1000000 := by omega
  clear hxi
  clear hz
  have HZ := Lib.hid hzi; clear hzi
  have e1 : IntKind.u64.wrap (z : Int) = (z : Int) := IntWalk.u64_in _ (by omega)
  have x4 := Blk.at0 HS.out (Below.refl _ _)
  have i0 := hi
  go_wp2_with fail
  refine (of_n z (by omega) _).mono ?_
  rintro e w3 ⟨A3, n3, c3, rfl, h3, -, hb⟩
  clear hcX x4 e1
  have HT := Lib.hid h3; clear h3
  replace HE := Lib.hid (HE.out.keep hb)
  replace HD := Lib.hid (HD.out.keep hb)
  replace HDN := Lib.hid (HDN.out.new hb)
  replace HS := Lib.hid (HS.out.keep hb)
  replace HX := Lib.hid ((HX.out.below hb).more (Below.size hb))
  replace HR := Lib.hid (HR.out.keep hb)
  replace HRN := Lib.hid (HRN.out.new hb)
  replace HV := Lib.hid (HV.out.new hb)
  replace HB := Lib.hid (bthen HB.out hb HB.out.size)
  replace HY := Lib.hid (HY.out.keep hb)
  replace HYb := Lib.hid (HYb.out.new hb)
  replace HQ := Lib.hid (HQ.out.new hb)
  clear hb
  go_wp2_with fail
  refine (pow_nv ⟨_, _, _, rfl, HT.out⟩ ⟨_, _, _, rfl, HQ.out⟩ (by have := HM.out; omega) (Nat.lt_of_lt_of_le HF.out big60)).mono ?_
  rintro e w4 ⟨v4, rfl, ⟨A14, n4, c4, rfl, h4⟩, hb⟩
  have HP := Lib.hid (h4.up HF.out (by omega)); clear h4
  replace HE := Lib.hid (HE.out.keep hb)
  replace HD := Lib.hid (HD.out.keep hb)
  replace HDN := Lib.hid (HDN.out.new hb)
  replace HS := Lib.hid (HS.out.keep hb)
  replace HX := Lib.hid ((HX.out.below hb).more (Below.size hb))
  replace HR := Lib.hid (HR.out.keep hb)
  replace HRN := Lib.hid (HRN.out.new hb)
  replace HV := Lib.hid (HV.out.new hb)
  replace HB := Lib.hid (bthen HB.out hb HB.out.size)
  replace HY := Lib.hid (HY.out.keep hb)
  replace HYb := Lib.hid (HYb.out.new hb)
  replace HQ := Lib.hid (HQ.out.new hb)
  replace HT := Lib.hid (HT.out.new hb)
  clear hb
  have x5 := Blk.at0 HR.out (Below.refl _ _)
  go_wp2_with fail
  refine (mul_n HRN.out HP.out (by omega)).mono ?_
  rintro e w5 ⟨A5, n5, c5, rfl, h5, -, hb⟩
  clear x5
  have HN := Lib.hid h5; clear h5
  replace HE := Lib.hid (HE.out.keep hb)
  replace HD := Lib.hid (HD.out.keep hb)
  replace HDN := Lib.hid (HDN.out.new hb)
  replace HS := Lib.hid (HS.out.keep hb)
  replace HX := Lib.hid ((HX.out.below hb).more (Below.size hb))
  replace HR := Lib.hid (HR.out.keep hb)
  replace HRN := Lib.hid (HRN.out.new hb)
  replace HV := Lib.hid (HV.out.new hb)
  replace HB := Lib.hid (bthen HB.out hb HB.out.size)
  replace HY := Lib.hid (HY.out.keep hb)
  replace HYb := Lib.hid (HYb.out.new hb)
  replace HQ := Lib.hid (HQ.out.new hb)
  replace HT := Lib.hid (HT.out.new hb)
  replace HP := Lib.hid (HP.out.new hb)
  clear hb
  have y0 := Blk.at0 HR.out (Below.refl _ _)
  have f0 := HR.out.frozen 0
  have kn := KeepsN.blk HR.out (i := 0) (by show 0 < 1; omega) (by intro x; simp) (.slice A5 n5 c5)
  go_wp2_with fail
  refine bodyPost_end (results_none rfl _ _ _) rfl ⟨rfl, ⟨A5, n5, c5, HR.out.set_ 0 _, by rw [← HZt.out]; exact HN.out.keepN kn⟩, only_setCell (only_of_below HB.out _) (.inl rfl) _, (KeepsN.below HB.out).trans kn⟩
/-- The state of product's visit. -/
structure PrdJ (X : Nat → Rat) (b : Nat) (A : Option Addr) (n D l cx gE gd gs gr : Nat) (AX : Option Addr) (xs : List Int) (w0 : World) (i : Nat) (w : World) : Prop where
  a : Rs w w0.heap.size A n (PW w b X)
  e : Blk w gE 34 #[.int .i64 0]
  d : ∃ (A' : Option Addr) (n' c' : Nat), Blk w gd 29 #[.slice A' n' c'] ∧ Num w A' n' c' 2 D
  s : Blk w gs 45 #[.slice AX l cx]
  x : Xs w w0.heap.size AX l xs
  r : ∃ (A' : Option Addr) (n' c' : Nat), Blk w gr 29 #[.slice A' n' c'] ∧ Num w A' n' c' (2 + 60 * i) (prodP xs X D i)
  hb : Below w0.heap.size w0 w
section
variable {X : Nat → Rat} {b n D l cx gE gd gs gr i : Nat} {A AX : Option Addr} {xs : List Int} {w0 w w' : World}
theorem PrdJ.below (h : PrdJ X b A n D l cx gE gd gs gr AX xs w0 i w) (hb : Below w.heap.size w w') : PrdJ X b A n D l cx gE gd gs gr AX xs w0 i w' := by
  obtain ⟨A', n', c', h1, h2⟩ := h.d
  obtain ⟨A2, n2, c2, h3, h4⟩ := h.r
  exact ⟨Rs.grownB h.a (only_of_below hb none) h.hb.size (fun _ e => by cases e) (KeepsN.below hb), h.e.keep hb, ⟨A', n', c', h1.keep hb, h2.new hb⟩, h.s.keep hb, h.x.grownX (only_of_below hb none) h.hb.size (fun _ e => by cases e), ⟨A2, n2, c2, h3.keep hb, h4.new hb⟩, bthen h.hb hb h.hb.size⟩
theorem PrdJ.next (h : PrdJ X b A n D l cx gE gd gs gr AX xs w0 i w) (hN : gd ≠ gr ∧ w0.heap.size ≤ gr) (hx : ∃ (A' : Option Addr) (n' c' : Nat), Blk w' gr 29 #[.slice A' n' c'] ∧ Num w' A' n' c' (2 + 60 * i + 60) (prodP xs X D i * (inth xs i).toNat ^ expW (X i) D)) (hg : w.grownBy w' (some gr)) (kp : KeepsN w w') : PrdJ X b A n D l cx gE gd gs gr AX xs w0 (i + 1) w' := by
  obtain ⟨A', n', c', h1, h2⟩ := h.d
  obtain ⟨A2, n2, c2, h3, h4⟩ := h.r
  have lt : ∀ k, some gr = some k → w0.heap.size ≤ k := fun k e => by cases e; exact hN.2
  exact ⟨Rs.grownB h.a hg h.hb.size lt kp, h.e.grown hg (fun e => by injection e with e; exact Blk.ne_ h.e h3 (by decide) e), ⟨A', n', c', h1.grown hg (fun e => by injection e with e; exact hN.1 e), h2.keepN kp⟩, h.s.grown hg (fun e => by injection e with e; exact Blk.ne_ h.s h3 (by decide) e), h.x.grownX hg h.hb.size lt, by rw [show 2 + 60 * (i + 1) = 2 + 60 * i + 60 by omega]; exact hx, h.hb.grown hg h.hb.size lt⟩
end
set_option maxRecDepth 100000 in
set_option maxHeartbeats 8000000 in
theorem prod_any (n c b D l cx nD cD : Nat) (A AX AD : Option Addr) (X : Nat → Rat) (xs : List Int) (w : World) (hA : Rs w w.heap.size A n (PW w b X)) (hX : Xs w w.heap.size AX l xs) (hD : Num w AD nD cD 2 D) (hn : n ≤ l ∧ n ≤ 100) (hb : b + 2 ≤ 4900)
    (hC : ∀ i, i < n → (0 ≤ inth xs i ∧ inth xs i ≤ 1000000) ∧ expW (X i) D ≤ 1000 ∧ (inth xs i).toNat ^ expW (X i) D < PB 60) : Calls Try.prog 44 #[.slice A n c, .slice AX l cx, .slice AD nD cD] w (RV w (PwV (2 + 60 * n) (prodP xs X D n))) := by
  have HA0 := Lib.hid hA; have HX0 := Lib.hid hX; have HD0 := Lib.hid hD; have HC := Lib.hid hC; clear hA hX hD hC
  have hK2 : Enters 79 := enters (by kernel_rfl)
  go_enter Try.func44, Try.ntmps44
  go_upto_region 1 with (fail)
  have hbw := bthen (al w (.cells #[.slice AX l cx] 45)) (al _ (.cells #[.slice AD nD cD] 29)) (by simp)
  have HS := Lib.hid ((Blk.new w 45 #[.slice AX l cx]).keep (al _ (.cells #[.slice AD nD cD] 29)))
  have HD := Lib.hid (Blk.new (w.alloc (.cells #[.slice AX l cx] 45)) 29 #[.slice AD nD cD])
  rw [show (w.alloc (.cells #[.slice AX l cx] 45)).heap.size = w.heap.size + 1 from by simp] at HD
  have HB := Lib.hid hbw
  clear hbw
  generalize (w.alloc (.cells #[.slice AX l cx] 45)).alloc (.cells #[.slice AD nD cD] 29) = w1 at *
  obtain ⟨g4, hg4⟩ : ∃ g4, g4 = w.heap.size := ⟨_, rfl⟩
  obtain ⟨g5, hg5⟩ : ∃ g5, g5 = w.heap.size + 1 := ⟨_, rfl⟩
  rw [← hg5] at HD ⊢
  rw [← hg4] at HS ⊢
  have HGg4 := Lib.hid (show w.heap.size ≤ g4 ∧ w.heap.size ≤ g5 from by omega)
  clear hg4 hg5
  go_wp2_with fail
  refine (of_n 1 (by omega) _).mono ?_
  rintro e w2 ⟨A1, n1, c1, rfl, h1, -, hb⟩
  have HN := Lib.hid h1; clear h1
  replace HB := Lib.hid (bthen HB.out hb HB.out.size)
  replace HS := Lib.hid (HS.out.keep hb)
  replace HD := Lib.hid (HD.out.keep hb)
  clear hb
  have HL := Lib.hid (show g5 < w2.heap.size ∧ w.heap.size ≤ w2.heap.size from ⟨HD.out.lt, HB.out.size⟩)
  go_upto_region 2 with (fail)
  have hbw := bthen (al w2 (.cells #[.slice A1 n1 c1] 29)) (al _ (.cells #[.int .i64 0] 34)) (by simp)
  have HR := Lib.hid ((Blk.new w2 29 #[.slice A1 n1 c1]).keep (al _ (.cells #[.int .i64 0] 34)))
  have HE := Lib.hid (Blk.new (w2.alloc (.cells #[.slice A1 n1 c1] 29)) 34 #[.int .i64 0])
  rw [show (w2.alloc (.cells #[.slice A1 n1 c1] 29)).heap.size = w2.heap.size + 1 from by simp] at HE
  replace HB := Lib.hid (bthen HB.out hbw HB.out.size)
  replace HS := Lib.hid (HS.out.keep hbw)
  replace HD := Lib.hid (HD.out.keep hbw)
  replace HN := Lib.hid (HN.out.new hbw)
  clear hbw
  generalize (w2.alloc (.cells #[.slice A1 n1 c1] 29)).alloc (.cells #[.int .i64 0] 34) = w3 at *
  obtain ⟨g8, hg8⟩ : ∃ g8, g8 = w2.heap.size := ⟨_, rfl⟩
  obtain ⟨g9, hg9⟩ : ∃ g9, g9 = w2.heap.size + 1 := ⟨_, rfl⟩
  rw [← hg9] at HE ⊢
  rw [← hg8] at HR ⊢
  have HGg8 := Lib.hid (show w2.heap.size ≤ g8 ∧ w2.heap.size ≤ g9 from by omega)
  clear hg8 hg9
  have HNe := Lib.hid (show g5 ≠ g8 ∧ w.heap.size ≤ g8 from by have := HL.out; have := HGg8.out; omega)
  go_wp2_with fail
  refine (visit_any 79 hK2 #[.pointer (some ⟨g9, 0, none⟩), .pointer (some ⟨g5, 0, none⟩), .pointer (some ⟨g4, 0, none⟩), .pointer (some ⟨g8, 0, none⟩)] n c b A X (PrdJ X b A n D l cx g9 g5 g4 g8 AX xs w) (fun i w' h => Rs.moreB h.a h.hb.size) (fun i w' w'' h hb => h.below hb) (fun i w' v hi h hv => ?_) (by omega) w3 ⟨Rs.grownB HA0.out (only_of_below HB.out none) (Nat.le_refl _) (fun _ e => by cases e) (KeepsN.below HB.out), HE.out, ⟨_, _, _, HD.out, HD0.out.new HB.out⟩, HS.out, HX0.out.grownX (only_of_below HB.out none) (Nat.le_refl _) (fun _ e => by cases e), ⟨_, _, _, HR.out, HN.out⟩, HB.out⟩).mono ?_
  · obtain ⟨A3, n3, c3, h3, h4⟩ := h.d
    obtain ⟨A14, n4, c4, h5, h6⟩ := h.r
    obtain ⟨q1, q2, q3⟩ := HC.out i hi
    refine (prod1_any i b (2 + 60 * i) D _ l cx g9 g5 g4 g8 (X i) xs AX A3 A14 n3 c3 n4 c4 v w' h.e h3 h4 h.s (h.x.more h.hb.size) h5 h6 hv (by omega) q1 q2 q3 (by omega)).mono ?_
    rintro e w4 ⟨rfl, hx, hg, kp⟩
    exact ⟨rfl, h.next HNe.out hx hg kp⟩
  rintro e w4 ⟨rfl, hj⟩
  have HJ := Lib.hid hj; clear hj
  obtain ⟨A5, n5, c5, h5, h6⟩ := HJ.out.r
  have x0 := Blk.at0 h5 (Below.refl _ _); have x1 := Blk.at0 HJ.out.e (Below.refl _ _)
  have HN5 := Lib.hid h6; clear h5 h6
  go_wp2_with fail
  first | exact bodyPost_ret (results_tmp2 rfl _ _ _) rfl ⟨_, rfl, ⟨_, _, _, rfl, HN5.out⟩, HJ.out.hb⟩ | exact bodyPost_end (results_tmp2 rfl _ _ _) rfl ⟨_, rfl, ⟨_, _, _, rfl, HN5.out⟩, HJ.out.hb⟩
end Go.Proofs.Ytpnklmgfdihjfaa
namespace Go.Proofs.Ytpnklmgfdihjfaa
open Go.RowKit
set_option linter.unusedVariables false
set_option linter.unusedSimpArgs false

/-- The code of checkSizes. -/
def SzR (l m : Nat) (xs : List Int) (W : Nat → Rat) (z : Int) : Prop := (l ≠ m → z = 28) ∧ (l = m → (∃ j, j < m ∧ ¬ (0 ≤ inth xs j ∧ 0 ≤ W j)) → z = 19) ∧ (l = m → (∀ j, j < m → 0 ≤ inth xs j ∧ 0 ≤ W j) → z = 0)
set_option maxRecDepth 100000 in
set_option maxHeartbeats 8000000 in
theorem sizes_any (l m np cw cp cx b : Nat) (AW AP AX : Option Addr) (s0 : Bool) (A0 B0 : Option Addr) (k0 c0 m0 d0 : Nat) (W : Nat → Rat) (xs : List Int) (w : World) (hW : Rs w w.heap.size AW m (PW w b W)) (hX : Xs w w.heap.size AX l xs) (hl : l ≤ 1000) :
    Calls Try.prog 41 #[.agg #[.slice AW m cw, .slice AP np cp, .bool s0, .slice A0 k0 c0, .slice B0 m0 d0], .slice AX l cx] w (fun e w' => ∃ z : Int, e = .returned (.int .i64 z) ∧ SzR l m xs W z ∧ Below w.heap.size w w') := by
  have HW := Lib.hid hW; have HX0 := Lib.hid hX; clear hW hX
  go_enter Try.func41, Try.ntmps41
  go_upto_region 1 with (fail)
  have hbw := al w (.cells #[.slice AW m cw, .slice AP np cp, .bool s0, .slice A0 k0 c0, .slice B0 m0 d0] 33)
  have HC := Lib.hid (Blk.new w 33 #[.slice AW m cw, .slice AP np cp, .bool s0, .slice A0 k0 c0, .slice B0 m0 d0])
  have HB := Lib.hid hbw
  replace HW := Lib.hid (Rs.newW HW.out hbw)
  clear hbw
  generalize w.alloc (.cells #[.slice AW m cw, .slice AP np cp, .bool s0, .slice A0 k0 c0, .slice B0 m0 d0] 33) = w1 at *
  obtain ⟨g2, hg2⟩ : ∃ g2, g2 = w.heap.size := ⟨_, rfl⟩
  rw [← hg2] at HC ⊢
  have HGg2 := Lib.hid (show w.heap.size ≤ g2 from by omega)
  clear hg2
  have x0 := Blk.at0 HC.out (Below.refl _ _)
  by_cases hlm : l = m
  rotate_left
  · have t0 : ¬ ((l : Int) = (m : Int)) := by omega
    go_wp2_with fail
    go_ret
    exact ⟨28, rfl, ⟨fun _ => rfl, fun h => absurd h hlm, fun h => absurd h hlm⟩, HB.out⟩
  subst hlm
  go_wp2_with fail
  clear x0
  go_loopg [15] l (fun g iv wr => ∃ i : Nat, iv = .int .i64 i ∧ i + g = l ∧ Hid ((∀ j, j < i → 0 ≤ inth xs j ∧ 0 ≤ W j) ∧ Blk wr g2 33 #[.slice AW l cw, .slice AP np cp, .bool s0, .slice A0 k0 c0, .slice B0 m0 d0] ∧ Rs wr wr.heap.size AW l (PW wr b W) ∧ Below w.heap.size w wr))
  case atStart => exact ⟨0, rfl, by omega, Lib.hid ⟨fun j hj => absurd hj (by omega), HC.out, HW.out, HB.out⟩⟩
  case round =>
    obtain ⟨i, rfl, hil, HI⟩ := hrel
    clear HC HW HB
    have HOk := Lib.hid HI.out.1; have HC := Lib.hid HI.out.2.1; have HW := Lib.hid HI.out.2.2.1; have HB := Lib.hid HI.out.2.2.2
    clear HI
    by_cases hi : i < l
    · have i1 : ((i : Int) < (l : Int)) := by omega
      obtain ⟨adX, rfl, -, hcX⟩ := (HX0.out.below HB.out).at_ hi
      obtain ⟨adW, -, -, -, -, -, -, -, rfl, -⟩ := HW.out.at_ hi
      obtain ⟨xi, hxi⟩ : ∃ xi, xi = inth xs i := ⟨_, rfl⟩
      rw [← hxi] at hcX
      have HXi := Lib.hid hxi; clear hxi
      go_upto_region 6 with (fail)
      clear hcX
      by_cases hx : xi < 0
      · have HBad := Lib.hid (show ¬ (0 ≤ xi ∧ 0 ≤ W i) from fun h => by omega)
        · skip
          refine wp_region_seq (kss := [[], [(0, 20)], [(1, 21)], [(2, 22)], [(2, 22), (3, 23)], [(2, 22)], [(2, 22), (4, 24), (5, 25)], [(2, 22), (6, 26)], [(2, 22), (7, 27)], [(2, 22), (8, 28)], [(2, 22), (9, 29)]]) [(6, .int .i64 xi), (2, .pointer (some ⟨g2, 0, none⟩)), (5, .int .i64 ((i : Int)))] [EV (.int .i64 xi), EV (.bool true), EV (.bool true), EV (undef), EV (undef), EV (undef), EV (undef), EV (undef), EV (undef), EV (undef), EV (.bool true)] (by kernel_rfl) ⟨rfl, rfl, rfl, trivial⟩ ?_ ?_ ?_
          · exact ⟨eI, eI, eI, eI, eI, eI, eI, eI, eI, eI, eI, trivial⟩
          · refine ⟨?_, ?_, ?_, ?_, ?_, ?_, ?_, ?_, ?_, ?_, ?_, trivial⟩
            · exact fun _ _ _ he hd => ob_mv rfl rfl he.1
            · exact fun aa ww hb he hd => ob_plain rfl (gives_lt_int xi 0 .i64 _ _ _ _ rfl hd.1 rfl ⟨congrArg Value.bool (by simpa using hx), Below.refl _ _⟩)
            · exact fun _ _ _ he hd => ob_mv rfl rfl hd.1
            · exact fun aa ww hb he hd => ob_off 22 rfl (by kernel_rfl) hd.1 rfl
            · exact fun aa ww hb he hd => ob_off 22 rfl (by kernel_rfl) hd.1 rfl
            · exact fun aa ww hb he hd => ob_off 22 rfl (by kernel_rfl) hd.1 rfl
            · exact fun aa ww hb he hd => ob_off 22 rfl (by kernel_rfl) hd.1 rfl
            · exact fun aa ww hb he hd => ob_off 22 rfl (by kernel_rfl) hd.1 rfl
            · exact fun aa ww hb he hd => ob_off 22 rfl (by kernel_rfl) hd.1 rfl
            · exact fun aa ww hb he hd => ob_off 22 rfl (by kernel_rfl) hd.1 rfl
            · exact fun aa ww hb he hd => ob_plain rfl (gives_pick true _ _ _ rfl hd.1 ⟨rfl, Below.refl _ _⟩)
          intro vs w5 hb hR
          have e30 : vs 10 = .bool true := hR 10 (by decide)
          clear hR
          simp only [putsL, Nat.zero_add, Nat.reduceAdd, List.take_succ_cons, List.take_zero, Act.put, List.setIfInBounds_toArray, List.set_cons_zero, List.set_cons_succ]
          rw [e30]
          clear e30
          go_wp2_with fail
          go_ret
          exact ⟨19, rfl, ⟨fun h => absurd rfl h, fun _ _ => rfl, fun _ h => absurd (h i hi) (by rw [← HXi.out]; exact HBad.out)⟩, bthen HB.out hb HB.out.size⟩
      by_cases hw : W i < 0
      · have HBad := Lib.hid (show ¬ (0 ≤ xi ∧ 0 ≤ W i) from fun h => by have := h.2; grind)
        · skip
          refine wp_region_seq (kss := [[], [(0, 20)], [(1, 21)], [(2, 22)], [(2, 22), (3, 23)], [(2, 22)], [(2, 22), (4, 24), (5, 25)], [(2, 22), (6, 26)], [(2, 22), (7, 27)], [(2, 22), (8, 28)], [(2, 22), (9, 29)]]) [(6, .int .i64 xi), (2, .pointer (some ⟨g2, 0, none⟩)), (5, .int .i64 ((i : Int)))] [EV (.int .i64 xi), EV (.bool false), EV (.bool false), EV (.pointer (some ⟨g2, 0, none⟩)), EV (.slice (some adW) l cw), EV (.int .i64 ((i : Int))), EV (.pointer (some (Addr.add adW (i * 3)))), Rw (b) (W i), EV (.int .i64 ((W i).num.sign)), EV (.bool true), EV (.bool true)] (by kernel_rfl) ⟨rfl, rfl, rfl, trivial⟩ ?_ ?_ ?_
          · exact ⟨eI, eI, eI, eI, eI, eI, eI, fun _ _ _ h hb => h.new hb, eI, eI, eI, trivial⟩
          · refine ⟨?_, ?_, ?_, ?_, ?_, ?_, ?_, ?_, ?_, ?_, ?_, trivial⟩
            · exact fun _ _ _ he hd => ob_mv rfl rfl he.1
            · exact fun aa ww hb he hd => ob_plain rfl (gives_lt_int xi 0 .i64 _ _ _ _ rfl hd.1 rfl ⟨congrArg Value.bool (by simpa using hx), Below.refl _ _⟩)
            · exact fun _ _ _ he hd => ob_mv rfl rfl hd.1
            · exact fun aa ww hb he hd => ob_on 22 rfl (by kernel_rfl) hd.1 (fld_cov (k := 0) rfl (by decide) he.2.1)
            · exact fun aa ww hb he hd => ob_on 22 rfl (by kernel_rfl) hd.1 (load_c28 rfl hd.2.1 (Blk.at0 HC.out hb))
            · exact fun aa ww hb he hd => ob_on 22 rfl (by kernel_rfl) hd.1 (gives_move _ rfl ⟨he.2.2.1, Below.refl _ _⟩)
            · exact fun aa ww hb he hd => ob_on 22 rfl (by kernel_rfl) hd.1 (idx_rs (by omega) rfl hd.2.1 hd.2.2.1)
            · exact fun aa ww hb he hd => ob_on 22 rfl (by kernel_rfl) hd.1 (load_rw rfl hd.2.1 (Rs.newW HW.out hb) (by omega))
            · exact fun aa ww hb he hd => ob_on 22 rfl (by kernel_rfl) hd.1 (gives_call1 _ _ _ rfl (by kernel_rfl) (sign_v (hd.2.1)))
            · exact fun aa ww hb he hd => ob_on 22 rfl (by kernel_rfl) hd.1 (gives_lt_int ((W i).num.sign) 0 .i64 _ _ _ _ rfl hd.2.1 rfl ⟨congrArg Value.bool (sign_lt.trans (decide_eq_true hw)), Below.refl _ _⟩)
            · exact fun aa ww hb he hd => ob_plain rfl (gives_pick false _ _ _ rfl hd.1 ⟨hd.2.1, Below.refl _ _⟩)
          intro vs w5 hb hR
          have e30 : vs 10 = .bool true := hR 10 (by decide)
          clear hR
          simp only [putsL, Nat.zero_add, Nat.reduceAdd, List.take_succ_cons, List.take_zero, Act.put, List.setIfInBounds_toArray, List.set_cons_zero, List.set_cons_succ]
          rw [e30]
          clear e30
          go_wp2_with fail
          go_ret
          exact ⟨19, rfl, ⟨fun h => absurd rfl h, fun _ _ => rfl, fun _ h => absurd (h i hi) (by rw [← HXi.out]; exact HBad.out)⟩, bthen HB.out hb HB.out.size⟩
      have HGd := Lib.hid (show 0 ≤ xi ∧ 0 ≤ W i from ⟨by omega, by grind⟩)
      · skip
        refine wp_region_seq (kss := [[], [(0, 20)], [(1, 21)], [(2, 22)], [(2, 22), (3, 23)], [(2, 22)], [(2, 22), (4, 24), (5, 25)], [(2, 22), (6, 26)], [(2, 22), (7, 27)], [(2, 22), (8, 28)], [(2, 22), (9, 29)]]) [(6, .int .i64 xi), (2, .pointer (some ⟨g2, 0, none⟩)), (5, .int .i64 ((i : Int)))] [EV (.int .i64 xi), EV (.bool false), EV (.bool false), EV (.pointer (some ⟨g2, 0, none⟩)), EV (.slice (some adW) l cw), EV (.int .i64 ((i : Int))), EV (.pointer (some (Addr.add adW (i * 3)))), Rw (b) (W i), EV (.int .i64 ((W i).num.sign)), EV (.bool false), EV (.bool false)] (by kernel_rfl) ⟨rfl, rfl, rfl, trivial⟩ ?_ ?_ ?_
        · exact ⟨eI, eI, eI, eI, eI, eI, eI, fun _ _ _ h hb => h.new hb, eI, eI, eI, trivial⟩
        · refine ⟨?_, ?_, ?_, ?_, ?_, ?_, ?_, ?_, ?_, ?_, ?_, trivial⟩
          · exact fun _ _ _ he hd => ob_mv rfl rfl he.1
          · exact fun aa ww hb he hd => ob_plain rfl (gives_lt_int xi 0 .i64 _ _ _ _ rfl hd.1 rfl ⟨congrArg Value.bool (by simpa using hx), Below.refl _ _⟩)
          · exact fun _ _ _ he hd => ob_mv rfl rfl hd.1
          · exact fun aa ww hb he hd => ob_on 22 rfl (by kernel_rfl) hd.1 (fld_cov (k := 0) rfl (by decide) he.2.1)
          · exact fun aa ww hb he hd => ob_on 22 rfl (by kernel_rfl) hd.1 (load_c28 rfl hd.2.1 (Blk.at0 HC.out hb))
          · exact fun aa ww hb he hd => ob_on 22 rfl (by kernel_rfl) hd.1 (gives_move _ rfl ⟨he.2.2.1, Below.refl _ _⟩)
          · exact fun aa ww hb he hd => ob_on 22 rfl (by kernel_rfl) hd.1 (idx_rs (by omega) rfl hd.2.1 hd.2.2.1)
          · exact fun aa ww hb he hd => ob_on 22 rfl (by kernel_rfl) hd.1 (load_rw rfl hd.2.1 (Rs.newW HW.out hb) (by omega))
          · exact fun aa ww hb he hd => ob_on 22 rfl (by kernel_rfl) hd.1 (gives_call1 _ _ _ rfl (by kernel_rfl) (sign_v (hd.2.1)))
          · exact fun aa ww hb he hd => ob_on 22 rfl (by kernel_rfl) hd.1 (gives_lt_int ((W i).num.sign) 0 .i64 _ _ _ _ rfl hd.2.1 rfl ⟨congrArg Value.bool (sign_lt.trans (decide_eq_false hw)), Below.refl _ _⟩)
          · exact fun aa ww hb he hd => ob_plain rfl (gives_pick false _ _ _ rfl hd.1 ⟨hd.2.1, Below.refl _ _⟩)
        intro vs w5 hb hR
        have e30 : vs 10 = .bool false := hR 10 (by decide)
        clear hR
        simp only [putsL, Nat.zero_add, Nat.reduceAdd, List.take_succ_cons, List.take_zero, Act.put, List.setIfInBounds_toArray, List.set_cons_zero, List.set_cons_succ]
        rw [e30]
        clear e30
        have HC9 := Lib.hid (HC.out.keep hb)
        have HW9 := Lib.hid (Rs.newW HW.out hb)
        have HB9 := Lib.hid (bthen HB.out hb HB.out.size)
        clear hb
        go_wp2_with fail
        go_roundg (gk - 1)
        case measure => omega
        case rel => exact ⟨i + 1, by go_num, by omega, Lib.hid ⟨fun j hj => by
          by_cases e : j = i
          · subst e; rw [← HXi.out]; exact HGd.out
          · exact HOk.out j (by omega), HC9.out, HW9.out, HB9.out⟩⟩
    · obtain rfl : l = i := by omega
      go_wp2_with fail
      go_ret
      exact ⟨0, rfl, ⟨fun h => absurd rfl h, fun _ ⟨j, hj, hbad⟩ => absurd (HOk.out j hj) hbad, fun _ _ => rfl⟩, HB.out⟩
end Go.Proofs.Ytpnklmgfdihjfaa
namespace Go.Proofs.Ytpnklmgfdihjfaa
open Go.RowKit
set_option linter.unusedVariables false
set_option linter.unusedSimpArgs false

set_option maxRecDepth 100000 in
set_option maxHeartbeats 4000000 in
theorem bit_any (i : Nat) (hi : i ≤ 100000) (w : World) : Calls Try.prog 84 #[.int .i64 (i : Int)] w (fun e w' => ∃ (A : Option Addr) (k c : Nat), e = .returned (.slice A k c) ∧ Num w' A k c (i / 32 + 1) (2 ^ i) ∧ Below w.heap.size w w') := by
  have hq : Int.tdiv (i : Int) 32 = ((i / 32 : Nat) : Int) := by rw [Int.tdiv_eq_ediv_of_nonneg (by omega)]; rfl
  have hr : Int.tmod (i : Int) 32 = ((i % 32 : Nat) : Int) := by rw [Int.tmod_eq_emod_of_nonneg (by omega)]; rfl
  obtain ⟨q, hq2⟩ : ∃ q, q = i / 32 := ⟨_, rfl⟩
  obtain ⟨r, hr2⟩ : ∃ r, r = i % 32 := ⟨_, rfl⟩
  rw [← hq2] at hq
  rw [← hr2] at hr
  have HQ := Lib.hid (show q = i / 32 ∧ r = i % 32 ∧ r < 32 from ⟨hq2, hr2, by omega⟩)
  have hq9 : q ≤ 3125 := by omega
  have hr9 : r < 32 := by omega
  rw [← hq2]
  clear hq2 hr2
  have hmk := mk_nat (q + 1) (by omega)
  simp only [Int.natCast_add, Int.natCast_one] at hmk
  have HB := Lib.hid (al w (.cells (urow (zer (q + 1))) 25))
  have HK := Lib.hid (Blk.new w 25 (urow (zer (q + 1))))
  go_enter Try.func84, Try.ntmps84
  go_upto_region 2 with (fail)
  clear hmk
  generalize w.alloc (.cells (urow (zer (q + 1))) 25) = w1 at *
  obtain ⟨g, hg⟩ : ∃ g, g = w.heap.size := ⟨_, rfl⟩
  rw [← hg] at HK ⊢
  have HG := Lib.hid hg; clear hg
  have hlen : (zer (q + 1)).length = q + 1 := zer_length _
  have cR : w1.cell? ⟨g, q, none⟩ = some (.int .u32 (nth (zer (q + 1)) q : Int)) := by rw [HK.out.cell, urow_get (by rw [hlen]; omega)]
  have fR : w1.frozen? ⟨g, q, none⟩ = false := HK.out.frozen q
  have i1 : (0 : Int) ≤ (q : Int) := by omega
  have i2 : (q : Int) < (q : Int) + 1 := by omega
  have i3 : (0 : Int) ≤ (r : Int) := by omega
  have i4 : (r : Int) < 32 := by omega
  have esh := shl_mod r hr9
  clear hlen
  go_wp2_with fail
  go_ret
  have hset := HK.out.set_ q (.int .u32 ((2 ^ r : Nat) : Int))
  rw [urow_set] at hset
  have hv := valB_set (b := 4294967296) (l := zer (q + 1)) (k := q) (x := 2 ^ r) (by rw [zer_length]; omega)
  have hz : nth (zer (q + 1)) q = 0 := by unfold nth zer; rw [List.getD_eq_getElem?_getD, List.getElem?_replicate]; simp
  have hz2 : valB 4294967296 (zer (q + 1)) = 0 := valB_zero _ _
  rw [hz, hz2, Nat.mul_zero, Nat.zero_add, Nat.add_zero] at hv
  have he : 4294967296 ^ q * 2 ^ r = 2 ^ i := by
    rw [show (4294967296 : Nat) = 2 ^ 32 from rfl, ← Nat.pow_mul, ← Nat.pow_add]
    congr 1
    have := HQ.out
    omega
  rw [he] at hv
  have h32 : 2 ^ r < 4294967296 := Nat.lt_of_lt_of_le (Nat.pow_lt_pow_right (by omega) hr9) (by decide)
  have hl2 : ((zer (q + 1)).set q (2 ^ r)).length = q + 1 := by rw [List.length_set, zer_length]
  have hd : ∀ d ∈ (zer (q + 1)).set q (2 ^ r), d < 4294967296 := fun d hd => by
    rcases List.mem_or_eq_of_mem_set hd with h | h
    · have := List.eq_of_mem_replicate h; omega
    · omega
  refine ⟨_, _, _, rfl, ⟨Nat.le_refl _, by omega, by omega, ?_, _, (by have h := Es.of_blk hset (by rw [hl2]; omega) hd; rw [hl2] at h; exact h), hv⟩, ?_⟩
  · rw [← hv]
    have := valB_lt (b := 4294967296) hd
    rw [hl2] at this
    exact this
  · exact HB.out.setCell (p := ⟨g, q, none⟩) (by show w.heap.size ≤ g; rw [HG.out]; exact Nat.le_refl _) _
end Go.Proofs.Ytpnklmgfdihjfaa
