/-
The walk of law28.SimplexSolves. Printed by gen/slaw.py.
-/
import Derived.Test.YtamcibmjpmibdaaK17
import Derived.Test.YtamcibmjpmibdaaK14
namespace Go.Proofs.Ytamcibmjpmibdaa
open Go.RowKit
set_option linter.unusedVariables false
set_option linter.unusedSimpArgs false

set_option maxRecDepth 100000 in
set_option maxHeartbeats 16000000 in
theorem solves_walk (n m k cC cA cB : Nat) (PC PA PB : Option Addr) (Pr : Nat → Option Addr) (ln cp : Nat → Nat) (NC NB : Nat → Int) (DC DB : Nat → Nat) (NA : Nat → Nat → Int) (DA : Nat → Nat → Nat) (w : World) (hP : PgL w n m k PC PA PB Pr ln cp NC NB DC DB NA DA)
    (A : Nat → Nat → Rat) (C B : Nat → Rat) (eC : C = fun i => smq (NC i) (DC i)) (eB : B = fun i => smq (NB i) (DB i)) (eA : A = fun i j => smq (NA i j) (DA i j)) :
    Calls Try.prog 3 #[.agg #[.slice PC n cC, .slice PA m cA, .slice PB k cB]] w (fun e w' => e = .returned (.bool true) ∧ Below w.heap.size w w') := by
  have EC := Lib.hid eC; have EB := Lib.hid eB; have EA := Lib.hid eA; clear eC eB eA
  have HPg := Lib.hid hP.p; have HLn := Lib.hid hP.l; clear hP
  go_enter Try.func3, Try.ntmps3
  go_upto_region 1 with (fail)
  have hbw := al w (.cells #[.slice PC n cC, .slice PA m cA, .slice PB k cB] 25)
  have T := Lib.hid (Blk.new w 25 #[.slice PC n cC, .slice PA m cA, .slice PB k cB])
  have HB := Lib.hid hbw
  replace HPg := Lib.hid (HPg.out.new hbw)
  clear hbw
  generalize w.alloc (.cells #[.slice PC n cC, .slice PA m cA, .slice PB k cB] 25) = w1 at *
  obtain ⟨g3, hg3⟩ : ∃ g3, g3 = w.heap.size := ⟨_, rfl⟩
  rw [← hg3] at T ⊢
  have HGg3 := Lib.hid (show w.heap.size ≤ g3 from by omega)
  clear hg3
  have c0 := Blk.at0 T.out (Below.refl _ _); have c1 := Blk.at1 T.out (Below.refl _ _); have c2 := Blk.at2 T.out (Below.refl _ _)
  go_wp2_with fail
  refine (great_any n m k cC cA cB PC PA PB w1).mono ?_
  rintro e w2 ⟨t, rfl, hb, ht⟩
  have HT := Lib.hid ht; clear ht c0 c1 c2
  replace HPg := Lib.hid (HPg.out.new hb)
  replace HB := Lib.hid (bthen HB.out hb HB.out.size)
  replace T := Lib.hid (T.out.keep hb)
  clear hb
  have c0 := Blk.at0 T.out (Below.refl _ _); have c1 := Blk.at1 T.out (Below.refl _ _); have c2 := Blk.at2 T.out (Below.refl _ _)
  by_cases htt : t = true
  · subst htt
    clear HT
    go_wp2_with fail
    refine (awake_any _).mono ?_
    rintro e w3 ⟨rfl, hb⟩
    go_wp2_with fail
    go_ret
    exact ⟨rfl, bthen HB.out hb HB.out.size⟩
  obtain rfl : t = false := by simpa using htt
  clear htt
  obtain ⟨hn5, hm5, hk6⟩ := HT.out.1 rfl
  clear HT
  go_wp2_with fail
  refine (of_any n m k cC cA cB PC PA PB Pr ln cp NC NB DC DB NA DA w2 HPg.out (by omega) (by omega) (by omega) HLn.out A C B EC.out EB.out EA.out smq_small).mono ?_
  rintro e w3 ⟨YC, YA, YB, QC, QA, QB, Yr, Qr, yp, qp, yc, ya, yb, qc, qa, qb, rfl, hpr, hrq, hb⟩
  clear c0 c1 c2
  replace HPg := Lib.hid (HPg.out.new hb)
  replace HB := Lib.hid (bthen HB.out hb HB.out.size)
  replace T := Lib.hid (T.out.keep hb)
  clear hb
  have HP := Lib.hid hpr; have HQ := Lib.hid hrq; clear hpr hrq
  go_upto_region 4 with (fail)
  have hbw := bthen (al w3 (.cells #[.slice YC n yc, .slice YA m ya, .slice YB k yb] 31)) (al _ (.cells #[.slice QC n qc, .slice QA m qa, .slice QB k qb] 35)) (by simp)
  have HY := Lib.hid ((Blk.new w3 31 #[.slice YC n yc, .slice YA m ya, .slice YB k yb]).keep (al _ (.cells #[.slice QC n qc, .slice QA m qa, .slice QB k qb] 35)))
  have HR := Lib.hid (Blk.new (w3.alloc (.cells #[.slice YC n yc, .slice YA m ya, .slice YB k yb] 31)) 35 #[.slice QC n qc, .slice QA m qa, .slice QB k qb])
  rw [show (w3.alloc (.cells #[.slice YC n yc, .slice YA m ya, .slice YB k yb] 31)).heap.size = w3.heap.size + 1 from by simp] at HR
  replace HPg := Lib.hid (HPg.out.new hbw)
  replace HB := Lib.hid (bthen HB.out hbw HB.out.size)
  replace T := Lib.hid (T.out.keep hbw)
  replace HP := Lib.hid (HP.out.new hbw)
  replace HQ := Lib.hid (HQ.out.new hbw)
  clear hbw
  generalize (w3.alloc (.cells #[.slice YC n yc, .slice YA m ya, .slice YB k yb] 31)).alloc (.cells #[.slice QC n qc, .slice QA m qa, .slice QB k qb] 35) = w4 at *
  obtain ⟨g7, hg7⟩ : ∃ g7, g7 = w3.heap.size := ⟨_, rfl⟩
  obtain ⟨g8, hg8⟩ : ∃ g8, g8 = w3.heap.size + 1 := ⟨_, rfl⟩
  rw [← hg8] at HR ⊢
  rw [← hg7] at HY ⊢
  have HGg7 := Lib.hid (show w3.heap.size ≤ g7 ∧ w3.heap.size ≤ g8 from by omega)
  clear hg7 hg8
  by_cases hv : m = k ∧ ∀ i, i < m → ln i = n
  rotate_left
  · have HBad := Lib.hid hv; clear hv
    have y0 := Blk.at0 HY.out (Below.refl _ _); have y1 := Blk.at1 HY.out (Below.refl _ _); have y2 := Blk.at2 HY.out (Below.refl _ _)
    go_wp2_with fail
    refine (Solve_bad n m k yc ya yb YC YA YB Yr ln yp w4 HP.out.a (by omega) HBad.out).mono ?_
    rintro e w5 ⟨v, rfl, rfl, hb⟩
    replace HPg := Lib.hid (HPg.out.new hb)
    replace HB := Lib.hid (bthen HB.out hb HB.out.size)
    replace T := Lib.hid (T.out.keep hb)
    replace HP := Lib.hid (HP.out.new hb)
    replace HQ := Lib.hid (HQ.out.new hb)
    replace HY := Lib.hid (HY.out.keep hb)
    replace HR := Lib.hid (HR.out.keep hb)
    clear hb
    clear y0 y1 y2
    go_upto_region 5 with (fail)
    have hbw := al w5 (.cells #[.int .i64 0, .slice none 0 0, .slice none 0 0, .slice none 0 0, .bool false, .slice none 0 0, .slice none 0 0] 43)
    have HZ := Lib.hid (Blk.new w5 43 #[.int .i64 0, .slice none 0 0, .slice none 0 0, .slice none 0 0, .bool false, .slice none 0 0, .slice none 0 0])
    replace HPg := Lib.hid (HPg.out.new hbw)
    replace HB := Lib.hid (bthen HB.out hbw HB.out.size)
    replace T := Lib.hid (T.out.keep hbw)
    replace HP := Lib.hid (HP.out.new hbw)
    replace HQ := Lib.hid (HQ.out.new hbw)
    replace HY := Lib.hid (HY.out.keep hbw)
    replace HR := Lib.hid (HR.out.keep hbw)
    clear hbw
    generalize w5.alloc (.cells #[.int .i64 0, .slice none 0 0, .slice none 0 0, .slice none 0 0, .bool false, .slice none 0 0, .slice none 0 0] 43) = w6 at *
    obtain ⟨g10, hg10⟩ : ∃ g10, g10 = w5.heap.size := ⟨_, rfl⟩
    rw [← hg10] at HZ ⊢
    have HGg10 := Lib.hid (show w5.heap.size ≤ g10 from by omega)
    clear hg10
    have q0 := Blk.at0 HR.out (Below.refl _ _); have q1 := Blk.at1 HR.out (Below.refl _ _); have q2 := Blk.at2 HR.out (Below.refl _ _)
    go_wp2_with fail
    refine (rvalid_any n m k qc qa qb QC QA QB Qr ln qp A C B w6 HQ.out (by omega)).mono ?_
    rintro e w7 ⟨t, rfl, hb, ht⟩
    clear q0 q1 q2
    obtain rfl : t = false := by cases t with | false => rfl | true => exact absurd (ht.1 rfl) HBad.out
    clear ht
    replace HPg := Lib.hid (HPg.out.new hb)
    replace HB := Lib.hid (bthen HB.out hb HB.out.size)
    replace T := Lib.hid (T.out.keep hb)
    replace HP := Lib.hid (HP.out.new hb)
    replace HQ := Lib.hid (HQ.out.new hb)
    replace HY := Lib.hid (HY.out.keep hb)
    replace HR := Lib.hid (HR.out.keep hb)
    replace HZ := Lib.hid (HZ.out.keep hb)
    clear hb
    go_upto_region 6 with (fail)
    refine wp_region_seq (kss := [[], [(0, 27)], [(1, 28)], [(2, 29)], [(2, 29), (3, 30)], [(2, 29), (4, 31)], [(2, 29)], [(2, 29), (6, 33)], [(2, 29), (7, 34)], [(2, 29), (5, 32), (8, 35)], [(2, 29)], [(2, 29), (10, 37)], [(2, 29), (11, 38)], [(2, 29), (9, 36), (12, 39)], [(2, 29), (13, 40)], [(2, 29), (14, 41)], [(15, 42)], [(16, 43)], [(16, 43), (17, 44)], [(18, 45)]]) [(6, .int .i64 1), (5, .pointer (some ⟨g10, 0, none⟩))] [fun zz _ => zz = .int .i64 1, fun zz _ => zz = .bool true, fun zz _ => zz = .bool true, fun zz _ => zz = .pointer (some ⟨g10, 1, none⟩), fun zz _ => zz = .slice none 0 0, fun zz _ => zz = .int .i64 ((0 : Int)), fun zz _ => zz = .pointer (some ⟨g10, 2, none⟩), fun zz _ => zz = .slice none 0 0, fun zz _ => zz = .int .i64 ((0 : Int)), fun zz _ => zz = .int .i64 (((0 + 0 : Nat) : Int)), fun zz _ => zz = .pointer (some ⟨g10, 3, none⟩), fun zz _ => zz = .slice none 0 0, fun zz _ => zz = .int .i64 ((0 : Int)), fun zz _ => zz = .int .i64 (((0 + 0 + 0 : Nat) : Int)), fun zz _ => zz = .bool true, fun zz _ => zz = .bool true, fun zz _ => zz = .bool true, fun zz _ => zz = .bool true, fun zz _ => zz = .bool true, fun zz _ => zz = .bool true] (by kernel_rfl) ⟨rfl, rfl, trivial⟩ ?_ ?_ ?_
    · exact ⟨fun _ _ _ h _ => h, fun _ _ _ h _ => h, fun _ _ _ h _ => h, fun _ _ _ h _ => h, fun _ _ _ h _ => h, fun _ _ _ h _ => h, fun _ _ _ h _ => h, fun _ _ _ h _ => h, fun _ _ _ h _ => h, fun _ _ _ h _ => h, fun _ _ _ h _ => h, fun _ _ _ h _ => h, fun _ _ _ h _ => h, fun _ _ _ h _ => h, fun _ _ _ h _ => h, fun _ _ _ h _ => h, fun _ _ _ h _ => h, fun _ _ _ h _ => h, fun _ _ _ h _ => h, fun _ _ _ h _ => h, trivial⟩
    · refine ⟨?_, ?_, ?_, ?_, ?_, ?_, ?_, ?_, ?_, ?_, ?_, ?_, ?_, ?_, ?_, ?_, ?_, ?_, ?_, ?_, trivial⟩
      · exact fun aa ww hb he hd => ob_plain rfl (gives_move _ rfl ⟨he.1, Below.refl _ _⟩)
      · exact fun aa ww hb he hd => ob_plain rfl (gives_eq_int 1 1 .i64 _ _ _ _ rfl hd.1 rfl ⟨congrArg Value.bool (rfl), Below.refl _ _⟩)
      · exact fun aa ww hb he hd => ob_plain rfl (gives_move _ rfl ⟨hd.1, Below.refl _ _⟩)
      · exact fun aa ww hb he hd => ob_on 29 rfl (by kernel_rfl) hd.1 (fld_sol rfl (by decide) he.2.1)
      · exact fun aa ww hb he hd => ob_on 29 rfl (by kernel_rfl) hd.1 (load_c28 rfl hd.2.1 (Blk.at1 HZ.out hb))
      · exact fun aa ww hb he hd => ob_on 29 rfl (by kernel_rfl) hd.1 (len_c Try.underlying28 rfl hd.2.1)
      · exact fun aa ww hb he hd => ob_on 29 rfl (by kernel_rfl) hd.1 (fld_sol rfl (by decide) he.2.1)
      · exact fun aa ww hb he hd => ob_on 29 rfl (by kernel_rfl) hd.1 (load_c28 rfl hd.2.1 (Blk.at2 HZ.out hb))
      · exact fun aa ww hb he hd => ob_on 29 rfl (by kernel_rfl) hd.1 (len_c Try.underlying28 rfl hd.2.1)
      · exact fun aa ww hb he hd => ob_on 29 rfl (by kernel_rfl) hd.1 (gives_add_nat 0 0 (0 + 0) rfl hd.2.1 hd.2.2.1 (by first | rfl | omega) (by omega))
      · exact fun aa ww hb he hd => ob_on 29 rfl (by kernel_rfl) hd.1 (fld_sol rfl (by decide) he.2.1)
      · exact fun aa ww hb he hd => ob_on 29 rfl (by kernel_rfl) hd.1 (load_c28 rfl hd.2.1 (Blk.at3 HZ.out hb))
      · exact fun aa ww hb he hd => ob_on 29 rfl (by kernel_rfl) hd.1 (len_c Try.underlying28 rfl hd.2.1)
      · exact fun aa ww hb he hd => ob_on 29 rfl (by kernel_rfl) hd.1 (gives_add_nat (0 + 0) 0 (0 + 0 + 0) rfl hd.2.1 hd.2.2.1 (by first | rfl | omega) (by omega))
      · exact fun aa ww hb he hd => ob_on 29 rfl (by kernel_rfl) hd.1 (gives_eq_int (((0 + 0 + 0 : Nat) : Int)) 0 .i64 _ _ _ _ rfl hd.2.1 rfl ⟨congrArg Value.bool (rfl), Below.refl _ _⟩)
      · exact fun aa ww hb he hd => ob_plain rfl (gives_pick true _ _ _ rfl hd.1 ⟨hd.2.1, Below.refl _ _⟩)
      · exact fun aa ww hb he hd => ob_plain rfl (gives_move _ rfl ⟨hd.1, Below.refl _ _⟩)
      · exact fun aa ww hb he hd => ob_on 43 rfl (by kernel_rfl) hd.1 (gives_call0 _ _ rfl (by kernel_rfl) (rv_one (awake_any _)))
      · exact fun aa ww hb he hd => ob_plain rfl (gives_pick true _ _ _ rfl hd.1 ⟨hd.2.1, Below.refl _ _⟩)
      · exact fun aa ww hb he hd => ob_plain rfl (gives_assign _ rfl ⟨hd.1, Below.refl _ _⟩)
    intro vs w8 hb hR
    have e2 : vs 19 = .bool true := hR 19 (by decide)
    clear hR
    simp only [putsL, Nat.zero_add, Nat.reduceAdd, List.take_succ_cons, List.take_zero, Act.put, List.setIfInBounds_toArray, List.set_cons_zero, List.set_cons_succ]
    rw [e2]
    clear e2
    go_wp2_with fail
    go_ret
    exact ⟨rfl, bthen HB.out hb HB.out.size⟩
  obtain ⟨hmk, hl⟩ := hv
  subst hmk
  have HL := Lib.hid hl; clear hl
  replace HP := Lib.hid (HP.out.flat HL.out)
  have HF := Lib.hid (frac_smq (n := n) (m := m) EC.out EB.out EA.out)
  clear EC EB EA HLn
  have y0 := Blk.at0 HY.out (Below.refl _ _); have y1 := Blk.at1 HY.out (Below.refl _ _); have y2 := Blk.at2 HY.out (Below.refl _ _)
  go_wp2_with fail
  refine (solve_any n m 2 yc ya yb YC YA YB Yr (fun _ => n) yp A C B w4 HP.out (fun _ _ => rfl) (by omega) (by omega) (by omega) HF.out).mono ?_
  rintro e w5 ⟨AX, kX, cX, AY, kY, cY, AR, kR, cR, s, A0, k0, c0, B0, m0, d0, q, rfl, hs, hln, hX, hY, hR, hV, hb⟩
  replace HPg := Lib.hid (HPg.out.new hb)
  replace HB := Lib.hid (bthen HB.out hb HB.out.size)
  replace T := Lib.hid (T.out.keep hb)
  replace HP := Lib.hid (HP.out.new hb)
  replace HQ := Lib.hid (HQ.out.new hb)
  replace HY := Lib.hid (HY.out.keep hb)
  replace HR := Lib.hid (HR.out.keep hb)
  clear hb
  have HS := Lib.hid hs; have HV := Lib.hid hV; clear hs hV
  have HX := Lib.hid hX; have HYy := Lib.hid hY; have HRy := Lib.hid hR; have HLn := Lib.hid hln
  clear hX hY hR hln
  go_upto_region 5 with (fail)
  have hbw := al w5 (.cells #[.int .i64 (q.out : Int), .slice AX kX cX, .slice AY kY cY, .slice AR kR cR, .bool s, .slice A0 k0 c0, .slice B0 m0 d0] 43)
  have HZ := Lib.hid (Blk.new w5 43 #[.int .i64 (q.out : Int), .slice AX kX cX, .slice AY kY cY, .slice AR kR cR, .bool s, .slice A0 k0 c0, .slice B0 m0 d0])
  replace HPg := Lib.hid (HPg.out.new hbw)
  replace HB := Lib.hid (bthen HB.out hbw HB.out.size)
  replace T := Lib.hid (T.out.keep hbw)
  replace HP := Lib.hid (HP.out.new hbw)
  replace HQ := Lib.hid (HQ.out.new hbw)
  replace HY := Lib.hid (HY.out.keep hbw)
  replace HR := Lib.hid (HR.out.keep hbw)
  replace HV := Lib.hid (HV.out.new hbw)
  replace HX := Lib.hid (Rs.newW HX.out hbw)
  replace HYy := Lib.hid (Rs.newW HYy.out hbw)
  replace HRy := Lib.hid (Rs.newW HRy.out hbw)
  clear hbw
  generalize w5.alloc (.cells #[.int .i64 (q.out : Int), .slice AX kX cX, .slice AY kY cY, .slice AR kR cR, .bool s, .slice A0 k0 c0, .slice B0 m0 d0] 43) = w6 at *
  obtain ⟨g9, hg9⟩ : ∃ g9, g9 = w5.heap.size := ⟨_, rfl⟩
  rw [← hg9] at HZ ⊢
  have HGg9 := Lib.hid (show w5.heap.size ≤ g9 from by omega)
  clear hg9
  clear y0 y1 y2
  have q0 := Blk.at0 HR.out (Below.refl _ _); have q1 := Blk.at1 HR.out (Below.refl _ _); have q2 := Blk.at2 HR.out (Below.refl _ _)
  go_wp2_with fail
  refine (rvalid_any n m m qc qa qb QC QA QB Qr ln qp A C B w6 HQ.out (by omega)).mono ?_
  rintro e w7 ⟨t, rfl, hb, ht⟩
  clear q0 q1 q2
  obtain rfl : t = true := ht.2 ⟨rfl, HL.out⟩
  clear ht
  replace HPg := Lib.hid (HPg.out.new hb)
  replace HB := Lib.hid (bthen HB.out hb HB.out.size)
  replace T := Lib.hid (T.out.keep hb)
  replace HP := Lib.hid (HP.out.new hb)
  replace HQ := Lib.hid (HQ.out.new hb)
  replace HY := Lib.hid (HY.out.keep hb)
  replace HR := Lib.hid (HR.out.keep hb)
  replace HV := Lib.hid (HV.out.new hb)
  replace HX := Lib.hid (Rs.newW HX.out hb)
  replace HYy := Lib.hid (Rs.newW HYy.out hb)
  replace HRy := Lib.hid (Rs.newW HRy.out hb)
  replace HZ := Lib.hid (HZ.out.keep hb)
  clear hb
  clear HQ HR T HPg
  have y0 := Blk.at0 HY.out (Below.refl _ _); have y1 := Blk.at1 HY.out (Below.refl _ _); have y2 := Blk.at2 HY.out (Below.refl _ _)
  go_wp2_with fail
  refine (solve_any n m 2 yc ya yb YC YA YB Yr (fun _ => n) yp A C B w7 HP.out (fun _ _ => rfl) (by omega) (by omega) (by omega) HF.out).mono ?_
  rintro e w8 ⟨AXq, kXq, cXq, AYq, kYq, cYq, ARq, kRq, cRq, sq, A0q, k0q, c0q, B0q, m0q, d0q, qq, rfl, hs, hln, hX, hY, hR, hV, hb⟩
  replace HB := Lib.hid (bthen HB.out hb HB.out.size)
  replace HP := Lib.hid (HP.out.new hb)
  replace HY := Lib.hid (HY.out.keep hb)
  replace HV := Lib.hid (HV.out.new hb)
  replace HX := Lib.hid (Rs.newW HX.out hb)
  replace HYy := Lib.hid (Rs.newW HYy.out hb)
  replace HRy := Lib.hid (Rs.newW HRy.out hb)
  replace HZ := Lib.hid (HZ.out.keep hb)
  clear hb
  have HSq := Lib.hid hs; have HVq := Lib.hid hV; clear hs hV
  have HXq := Lib.hid hX; have HYyq := Lib.hid hY; have HRyq := Lib.hid hR; have HLnq := Lib.hid hln
  clear hX hY hR hln
  go_upto_region 8 with (fail)
  have hbw := al w8 (.cells #[.int .i64 (qq.out : Int), .slice AXq kXq cXq, .slice AYq kYq cYq, .slice ARq kRq cRq, .bool sq, .slice A0q k0q c0q, .slice B0q m0q d0q] 43)
  have HW := Lib.hid (Blk.new w8 43 #[.int .i64 (qq.out : Int), .slice AXq kXq cXq, .slice AYq kYq cYq, .slice ARq kRq cRq, .bool sq, .slice A0q k0q c0q, .slice B0q m0q d0q])
  replace HB := Lib.hid (bthen HB.out hbw HB.out.size)
  replace HP := Lib.hid (HP.out.new hbw)
  replace HY := Lib.hid (HY.out.keep hbw)
  replace HV := Lib.hid (HV.out.new hbw)
  replace HX := Lib.hid (Rs.newW HX.out hbw)
  replace HYy := Lib.hid (Rs.newW HYy.out hbw)
  replace HRy := Lib.hid (Rs.newW HRy.out hbw)
  replace HZ := Lib.hid (HZ.out.keep hbw)
  replace HVq := Lib.hid (HVq.out.new hbw)
  replace HXq := Lib.hid (Rs.newW HXq.out hbw)
  replace HYyq := Lib.hid (Rs.newW HYyq.out hbw)
  replace HRyq := Lib.hid (Rs.newW HRyq.out hbw)
  clear hbw
  generalize w8.alloc (.cells #[.int .i64 (qq.out : Int), .slice AXq kXq cXq, .slice AYq kYq cYq, .slice ARq kRq cRq, .bool sq, .slice A0q k0q c0q, .slice B0q m0q d0q] 43) = w9 at *
  obtain ⟨g11, hg11⟩ : ∃ g11, g11 = w8.heap.size := ⟨_, rfl⟩
  rw [← hg11] at HW ⊢
  have HGg11 := Lib.hid (show w8.heap.size ≤ g11 from by omega)
  clear hg11
  clear y0 y1 y2
  obtain rfl := HS.out.unique HSq.out
  have HCt := Lib.hid HS.out.cert
  have hkX : kXq = kX := by rcases HLn.out with h | h | h <;> rcases HLnq.out with h2 | h2 | h2 <;> omega
  have hkY : kYq = kY := by rcases HLn.out with h | h | h <;> rcases HLnq.out with h2 | h2 | h2 <;> omega
  have hle : kX ≤ 6 ∧ kY ≤ 6 := by rcases HLn.out with h | h | h <;> omega
  subst kXq; subst kYq
  refine wp_region_seq (kss := [[], [(0, 51)], [(1, 52)], [(2, 53)], [(2, 53), (3, 54)], [(2, 53), (4, 55)], [(5, 56)], [(6, 57)], [(6, 57)], [(6, 57), (7, 58), (8, 59)], [(6, 57), (9, 60)], [(6, 57), (10, 61)], [(11, 62)], [(12, 63)], [(12, 63)], [(12, 63), (13, 64), (14, 65)], [(12, 63), (15, 66)], [(12, 63), (16, 67)], [(17, 68)], [(18, 69)], [(18, 69), (19, 70)], [(18, 69)], [(18, 69), (21, 72)], [(18, 69), (20, 71), (22, 73)], [(18, 69), (23, 74)], [(24, 75)], [(25, 76)], [(25, 76), (26, 77)], [(25, 76), (27, 78)], [(25, 76)], [(25, 76), (29, 80)], [(25, 76), (30, 81)], [(25, 76), (28, 79), (31, 82)], [(25, 76), (32, 83)], [(33, 84)], [(34, 85)], [(34, 85), (35, 86)], [(34, 85), (36, 87)], [(34, 85)], [(34, 85), (38, 89)], [(34, 85), (39, 90)], [(34, 85), (37, 88), (40, 91)], [(34, 85), (41, 92)]]) [(6, .int .i64 0), (8, .int .i64 0), (3, .pointer (some ⟨g7, 0, none⟩)), (5, .pointer (some ⟨g9, 0, none⟩)), (7, .pointer (some ⟨g11, 0, none⟩))] [fun zz _ => zz = .int .i64 0, fun zz _ => zz = .bool false, fun zz _ => zz = .bool false, fun zz _ => zz = .int .i64 0, fun zz _ => zz = .bool false, fun zz _ => zz = .bool false, fun zz _ => zz = .bool false, fun zz _ => zz = .agg #[.slice YC n yc, .slice YA m ya, .slice YB m yb], fun zz _ => zz = .agg #[.int .i64 (q.out : Int), .slice AX kX cX, .slice AY kY cY, .slice AR kR cR, .bool s, .slice A0 k0 c0, .slice B0 m0 d0], fun zz _ => zz = .bool true, fun zz _ => zz = .bool false, fun zz _ => zz = .bool false, fun zz _ => zz = .bool false, fun zz _ => zz = .agg #[.slice YC n yc, .slice YA m ya, .slice YB m yb], fun zz _ => zz = .agg #[.int .i64 (q.out : Int), .slice AX kX cX, .slice AY kY cY, .slice AR kR cR, .bool s, .slice A0 k0 c0, .slice B0 m0 d0], fun zz _ => zz = .bool true, fun zz _ => zz = .bool false, fun zz _ => zz = .bool false, fun zz _ => zz = .bool false, fun zz _ => zz = .pointer (some ⟨g11, 0, none⟩), fun zz _ => zz = .int .i64 ((q.out : Int)), fun zz _ => zz = .pointer (some ⟨g9, 0, none⟩), fun zz _ => zz = .int .i64 ((q.out : Int)), fun zz _ => zz = .bool false, fun zz _ => zz = .bool false, fun zz _ => zz = .bool false, fun zz _ => zz = .pointer (some ⟨g11, 1, none⟩), fun zz _ => zz = .slice AXq kX cXq, fun zz _ => zz = .int .i64 ((kX : Int)), fun zz _ => zz = .pointer (some ⟨g9, 1, none⟩), fun zz _ => zz = .slice AX kX cX, fun zz _ => zz = .int .i64 ((kX : Int)), fun zz _ => zz = .bool false, fun zz _ => zz = .bool false, fun zz _ => zz = .bool false, fun zz _ => zz = .pointer (some ⟨g11, 2, none⟩), fun zz _ => zz = .slice AYq kY cYq, fun zz _ => zz = .int .i64 ((kY : Int)), fun zz _ => zz = .pointer (some ⟨g9, 2, none⟩), fun zz _ => zz = .slice AY kY cY, fun zz _ => zz = .int .i64 ((kY : Int)), fun zz _ => zz = .bool false, fun zz _ => zz = .bool false] (by kernel_rfl) ⟨rfl, rfl, rfl, rfl, rfl, trivial⟩ ?_ ?_ ?_
  · exact ⟨sI, sI, sI, sI, sI, sI, sI, sI, sI, sI, sI, sI, sI, sI, sI, sI, sI, sI, sI, sI, sI, sI, sI, sI, sI, sI, sI, sI, sI, sI, sI, sI, sI, sI, sI, sI, sI, sI, sI, sI, sI, sI, sI, trivial⟩
  · refine ⟨?_, ?_, ?_, ?_, ?_, ?_, ?_, ?_, ?_, ?_, ?_, ?_, ?_, ?_, ?_, ?_, ?_, ?_, ?_, ?_, ?_, ?_, ?_, ?_, ?_, ?_, ?_, ?_, ?_, ?_, ?_, ?_, ?_, ?_, ?_, ?_, ?_, ?_, ?_, ?_, ?_, ?_, ?_, trivial⟩
    · exact fun aa ww hb he hd => ob_plain rfl (gives_move _ rfl ⟨he.1, Below.refl _ _⟩)
    · exact fun aa ww hb he hd => ob_plain rfl (gives_ne_int 0 0 .i64 _ _ _ _ rfl hd.1 rfl ⟨congrArg Value.bool (rfl), Below.refl _ _⟩)
    · exact fun aa ww hb he hd => ob_plain rfl (gives_move _ rfl ⟨hd.1, Below.refl _ _⟩)
    · exact fun aa ww hb he hd => ob_on 53 rfl (by kernel_rfl) hd.1 (gives_move _ rfl ⟨he.2.1, Below.refl _ _⟩)
    · exact fun aa ww hb he hd => ob_on 53 rfl (by kernel_rfl) hd.1 (gives_ne_int 0 0 .i64 _ _ _ _ rfl hd.2.1 rfl ⟨congrArg Value.bool (rfl), Below.refl _ _⟩)
    · exact fun aa ww hb he hd => ob_plain rfl (gives_pick false _ _ _ rfl hd.1 ⟨hd.2.1, Below.refl _ _⟩)
    · exact fun aa ww hb he hd => ob_plain rfl (gives_move _ rfl ⟨hd.1, Below.refl _ _⟩)
    · exact fun aa ww hb he hd => ob_on 57 rfl (by kernel_rfl) hd.1 (load_prb rfl he.2.2.1 (Blk.keep HY.out hb))
    · exact fun aa ww hb he hd => ob_on 57 rfl (by kernel_rfl) hd.1 (load_sol rfl he.2.2.2.1 (Blk.keep HZ.out hb))
    · exact fun aa ww hb he hd => ob_on 57 rfl (by kernel_rfl) hd.1 (gives_call2 _ _ _ _ rfl (by kernel_rfl) (by rw [show aa.eval (.tmp 58) = .agg #[.slice YC n yc, .slice YA m ya, .slice YB m yb] from hd.2.1, show aa.eval (.tmp 59) = .agg #[.int .i64 (q.out : Int), .slice AX kX cX, .slice AY kY cY, .slice AR kR cR, .bool s, .slice A0 k0 c0, .slice B0 m0 d0] from hd.2.2.1]; exact right_true n m kX kY kR yc ya yb cX cY cR YC YA YB AX AY AR Yr yp A C B q.X q.Y q.Ray q.out q.v s A0 B0 k0 c0 m0 d0 _ (PrW.new HP.out hb) (Rs.newW HX.out hb) (Rs.newW HYy.out hb) (Rs.newW HRy.out hb) (Rw.new HV.out hb) HCt.out HLn.out (by omega) (by omega)))
    · exact fun aa ww hb he hd => ob_on 57 rfl (by kernel_rfl) hd.1 (gives_not true _ _ rfl hd.2.1 ⟨rfl, Below.refl _ _⟩)
    · exact fun aa ww hb he hd => ob_plain rfl (gives_pick false _ _ _ rfl hd.1 ⟨hd.2.1, Below.refl _ _⟩)
    · exact fun aa ww hb he hd => ob_plain rfl (gives_move _ rfl ⟨hd.1, Below.refl _ _⟩)
    · exact fun aa ww hb he hd => ob_on 63 rfl (by kernel_rfl) hd.1 (load_prb rfl he.2.2.1 (Blk.keep HY.out hb))
    · exact fun aa ww hb he hd => ob_on 63 rfl (by kernel_rfl) hd.1 (load_sol rfl he.2.2.2.1 (Blk.keep HZ.out hb))
    · exact fun aa ww hb he hd => ob_on 63 rfl (by kernel_rfl) hd.1 (gives_call2 _ _ _ _ rfl (by kernel_rfl) (by rw [show aa.eval (.tmp 64) = .agg #[.slice YC n yc, .slice YA m ya, .slice YB m yb] from hd.2.1, show aa.eval (.tmp 65) = .agg #[.int .i64 (q.out : Int), .slice AX kX cX, .slice AY kY cY, .slice AR kR cR, .bool s, .slice A0 k0 c0, .slice B0 m0 d0] from hd.2.2.1]; exact ret_t (Check_any n m m kX kY kR yc ya yb cX cY cR 2 140 140 140 140 YC YA YB AX AY AR Yr (fun _ => n) yp A C B q.X q.Y q.Ray _ q.v s A0 B0 k0 c0 m0 d0 _ (PrW.new HP.out hb) (Rs.newW HX.out hb) (Rs.newW HYy.out hb) (Rs.newW HRy.out hb) (Rw.new HV.out hb) (by omega) (by omega) (by omega) (by omega) (by omega) (by omega) (by omega) (by omega) (by omega) (by omega) (by omega)) (t_iff (cert_chk HCt.out HLn.out))))
    · exact fun aa ww hb he hd => ob_on 63 rfl (by kernel_rfl) hd.1 (gives_not true _ _ rfl hd.2.1 ⟨rfl, Below.refl _ _⟩)
    · exact fun aa ww hb he hd => ob_plain rfl (gives_pick false _ _ _ rfl hd.1 ⟨hd.2.1, Below.refl _ _⟩)
    · exact fun aa ww hb he hd => ob_plain rfl (gives_move _ rfl ⟨hd.1, Below.refl _ _⟩)
    · exact fun aa ww hb he hd => ob_on 69 rfl (by kernel_rfl) hd.1 (fld_sol rfl (by decide) he.2.2.2.2.1)
    · exact fun aa ww hb he hd => ob_on 69 rfl (by kernel_rfl) hd.1 (load_c3 rfl hd.2.1 (Blk.at0 HW.out hb))
    · exact fun aa ww hb he hd => ob_on 69 rfl (by kernel_rfl) hd.1 (fld_sol rfl (by decide) he.2.2.2.1)
    · exact fun aa ww hb he hd => ob_on 69 rfl (by kernel_rfl) hd.1 (load_c3 rfl hd.2.1 (Blk.at0 HZ.out hb))
    · exact fun aa ww hb he hd => ob_on 69 rfl (by kernel_rfl) hd.1 (gives_ne_int ((q.out : Int)) ((q.out : Int)) .i64 _ _ _ _ rfl hd.2.1 hd.2.2.1 ⟨congrArg Value.bool (by simp), Below.refl _ _⟩)
    · exact fun aa ww hb he hd => ob_plain rfl (gives_pick false _ _ _ rfl hd.1 ⟨hd.2.1, Below.refl _ _⟩)
    · exact fun aa ww hb he hd => ob_plain rfl (gives_move _ rfl ⟨hd.1, Below.refl _ _⟩)
    · exact fun aa ww hb he hd => ob_on 76 rfl (by kernel_rfl) hd.1 (fld_sol rfl (by decide) he.2.2.2.2.1)
    · exact fun aa ww hb he hd => ob_on 76 rfl (by kernel_rfl) hd.1 (load_c28 rfl hd.2.1 (Blk.at1 HW.out hb))
    · exact fun aa ww hb he hd => ob_on 76 rfl (by kernel_rfl) hd.1 (len_c Try.underlying28 rfl hd.2.1)
    · exact fun aa ww hb he hd => ob_on 76 rfl (by kernel_rfl) hd.1 (fld_sol rfl (by decide) he.2.2.2.1)
    · exact fun aa ww hb he hd => ob_on 76 rfl (by kernel_rfl) hd.1 (load_c28 rfl hd.2.1 (Blk.at1 HZ.out hb))
    · exact fun aa ww hb he hd => ob_on 76 rfl (by kernel_rfl) hd.1 (len_c Try.underlying28 rfl hd.2.1)
    · exact fun aa ww hb he hd => ob_on 76 rfl (by kernel_rfl) hd.1 (gives_ne_int ((kX : Int)) ((kX : Int)) .i64 _ _ _ _ rfl hd.2.1 hd.2.2.1 ⟨congrArg Value.bool (by simp), Below.refl _ _⟩)
    · exact fun aa ww hb he hd => ob_plain rfl (gives_pick false _ _ _ rfl hd.1 ⟨hd.2.1, Below.refl _ _⟩)
    · exact fun aa ww hb he hd => ob_plain rfl (gives_move _ rfl ⟨hd.1, Below.refl _ _⟩)
    · exact fun aa ww hb he hd => ob_on 85 rfl (by kernel_rfl) hd.1 (fld_sol rfl (by decide) he.2.2.2.2.1)
    · exact fun aa ww hb he hd => ob_on 85 rfl (by kernel_rfl) hd.1 (load_c28 rfl hd.2.1 (Blk.at2 HW.out hb))
    · exact fun aa ww hb he hd => ob_on 85 rfl (by kernel_rfl) hd.1 (len_c Try.underlying28 rfl hd.2.1)
    · exact fun aa ww hb he hd => ob_on 85 rfl (by kernel_rfl) hd.1 (fld_sol rfl (by decide) he.2.2.2.1)
    · exact fun aa ww hb he hd => ob_on 85 rfl (by kernel_rfl) hd.1 (load_c28 rfl hd.2.1 (Blk.at2 HZ.out hb))
    · exact fun aa ww hb he hd => ob_on 85 rfl (by kernel_rfl) hd.1 (len_c Try.underlying28 rfl hd.2.1)
    · exact fun aa ww hb he hd => ob_on 85 rfl (by kernel_rfl) hd.1 (gives_ne_int ((kY : Int)) ((kY : Int)) .i64 _ _ _ _ rfl hd.2.1 hd.2.2.1 ⟨congrArg Value.bool (by simp), Below.refl _ _⟩)
    · exact fun aa ww hb he hd => ob_plain rfl (gives_pick false _ _ _ rfl hd.1 ⟨hd.2.1, Below.refl _ _⟩)
  intro vs w10 hb hR
  have e93 : vs 42 = .bool false := hR 42 (by decide)
  clear hR
  simp only [putsL, Nat.zero_add, Nat.reduceAdd, List.take_succ_cons, List.take_zero, Act.put, List.setIfInBounds_toArray, List.set_cons_zero, List.set_cons_succ]
  rw [e93]
  clear e93
  replace HB := Lib.hid (bthen HB.out hb HB.out.size)
  replace HP := Lib.hid (HP.out.new hb)
  replace HY := Lib.hid (HY.out.keep hb)
  replace HV := Lib.hid (HV.out.new hb)
  replace HX := Lib.hid (Rs.newW HX.out hb)
  replace HYy := Lib.hid (Rs.newW HYy.out hb)
  replace HRy := Lib.hid (Rs.newW HRy.out hb)
  replace HZ := Lib.hid (HZ.out.keep hb)
  replace HVq := Lib.hid (HVq.out.new hb)
  replace HXq := Lib.hid (Rs.newW HXq.out hb)
  replace HYyq := Lib.hid (Rs.newW HYyq.out hb)
  replace HRyq := Lib.hid (Rs.newW HRyq.out hb)
  replace HW := Lib.hid (HW.out.keep hb)
  clear hb
  go_wp2_with fail
  have HBl0 := Lib.hid (Below.refl w10.heap.size w10)
  go_loopg [9] kX (fun g iv wr => ∃ i : Nat, iv = .int .i64 i ∧ i + g = kX ∧ Hid (Below w10.heap.size w10 wr))
  case atStart => exact ⟨0, rfl, by omega, HBl0⟩
  case round =>
    obtain ⟨i, rfl, hik, HBl⟩ := hrel
    clear HBl0
    by_cases hi : i < kX
    · have i1 : ((i : Int) < (kX : Int)) := by omega
      obtain ⟨ad1, -, -, -, -, -, -, -, rfl, -⟩ := HX.out.at_ hi
      obtain ⟨ad2, -, -, -, -, -, -, -, rfl, -⟩ := HXq.out.at_ hi
      have HZl := Lib.hid (HZ.out.keep HBl.out); have HWl := Lib.hid (HW.out.keep HBl.out)
      have z1 := Blk.at1 HZl.out (Below.refl _ _)
      go_upto_region 13 with (fail)
      clear z1
      refine wp_region_each (kss := [[], [(0, 101)], [], [(1, 102), (2, 103)], [(3, 104)], [], [(5, 106)], [], [(6, 107), (7, 108)], [(8, 109)], [(4, 105), (9, 110)], [(10, 111)]]) [(5, .pointer (some ⟨g9, 0, none⟩)), (9, .int .i64 ((i : Int))), (7, .pointer (some ⟨g11, 0, none⟩))] [fun zz _ => zz = .pointer (some ⟨g9, 1, none⟩), fun zz _ => zz = .slice (some ad1) kX cX, fun zz _ => zz = .int .i64 ((i : Int)), fun zz _ => zz = .pointer (some (Addr.add ad1 (i * 3))), Rw (140) ((q.X) i), fun zz _ => zz = .pointer (some ⟨g11, 1, none⟩), fun zz _ => zz = .slice (some ad2) kX cXq, fun zz _ => zz = .int .i64 ((i : Int)), fun zz _ => zz = .pointer (some (Addr.add ad2 (i * 3))), Rw (140) ((q.X) i), fun zz _ => zz = .int .i64 (rcq ((q.X) i) ((q.X) i)), fun zz _ => zz = .bool false] (by kernel_rfl) (by kernel_rfl) ⟨rfl, rfl, rfl, trivial⟩ ?_ ?_ ?_
      · exact ⟨fun _ _ _ h _ => h, fun _ _ _ h _ => h, fun _ _ _ h _ => h, fun _ _ _ h _ => h, fun _ _ _ h hb => h.new hb, fun _ _ _ h _ => h, fun _ _ _ h _ => h, fun _ _ _ h _ => h, fun _ _ _ h _ => h, fun _ _ _ h hb => h.new hb, fun _ _ _ h _ => h, fun _ _ _ h _ => h, trivial⟩
      · refine ⟨?_, ?_, ?_, ?_, ?_, ?_, ?_, ?_, ?_, ?_, ?_, ?_, trivial⟩
        · exact fun aa ww hb he hd => ob_plain rfl (fld_sol rfl (by decide) he.1)
        · exact fun aa ww hb he hd => ob_plain rfl (load_c28 rfl hd.1 (Blk.at1 HZl.out hb))
        · exact fun aa ww hb he hd => ob_plain rfl (gives_move _ rfl ⟨he.2.1, Below.refl _ _⟩)
        · exact fun aa ww hb he hd => ob_plain rfl (idx_rs (by omega) rfl hd.1 hd.2.1)
        · exact fun aa ww hb he hd => ob_plain rfl (load_rw rfl hd.1 (Rs.newW HX.out (bthen HBl.out hb HBl.out.size)) (by omega))
        · exact fun aa ww hb he hd => ob_plain rfl (fld_sol rfl (by decide) he.2.2.1)
        · exact fun aa ww hb he hd => ob_plain rfl (load_c28 rfl hd.1 (Blk.at1 HWl.out hb))
        · exact fun aa ww hb he hd => ob_plain rfl (gives_move _ rfl ⟨he.2.1, Below.refl _ _⟩)
        · exact fun aa ww hb he hd => ob_plain rfl (idx_rs (by omega) rfl hd.1 hd.2.1)
        · exact fun aa ww hb he hd => ob_plain rfl (load_rw rfl hd.1 (Rs.newW HXq.out (bthen HBl.out hb HBl.out.size)) (by omega))
        · exact fun aa ww hb he hd => ob_plain rfl (gives_call2 _ _ _ _ rfl (by kernel_rfl) (cmp_v (hd.1) (hd.2.1) (by omega)))
        · exact fun aa ww hb he hd => ob_plain rfl (gives_ne_int (rcq ((q.X) i) ((q.X) i)) 0 .i64 _ _ _ _ rfl hd.1 rfl ⟨congrArg Value.bool (rcq_self), Below.refl _ _⟩)
      intro vs w11 hb hR
      have e112 : vs 11 = .bool false := hR 11 (by decide)
      clear hR
      simp only [putsL, Nat.zero_add, Nat.reduceAdd, List.take_succ_cons, List.take_zero, Act.put, List.setIfInBounds_toArray, List.set_cons_zero, List.set_cons_succ]
      rw [e112]
      clear e112
      have HBn := Lib.hid (bthen HBl.out hb HBl.out.size)
      clear hb HBl HZl HWl
      go_wp2_with fail
      go_roundg (gk - 1)
      case measure => omega
      case rel => exact ⟨i + 1, by go_num, by omega, HBn⟩
    · obtain rfl : kX = i := by omega
      have HZl := Lib.hid (HZ.out.keep HBl.out)
      have z1 := Blk.at1 HZl.out (Below.refl _ _)
      go_upto_region 15 with (fail)
      clear z1 HZl
      obtain ⟨w12, hw12⟩ : ∃ w12, w12 = wr := ⟨_, rfl⟩
      subst hw12
      have hb := HBl.out; clear HBl
      replace HB := Lib.hid (bthen HB.out hb HB.out.size)
      replace HP := Lib.hid (HP.out.new hb)
      replace HY := Lib.hid (HY.out.keep hb)
      replace HV := Lib.hid (HV.out.new hb)
      replace HX := Lib.hid (Rs.newW HX.out hb)
      replace HYy := Lib.hid (Rs.newW HYy.out hb)
      replace HRy := Lib.hid (Rs.newW HRy.out hb)
      replace HZ := Lib.hid (HZ.out.keep hb)
      replace HVq := Lib.hid (HVq.out.new hb)
      replace HXq := Lib.hid (Rs.newW HXq.out hb)
      replace HYyq := Lib.hid (Rs.newW HYyq.out hb)
      replace HRyq := Lib.hid (Rs.newW HRyq.out hb)
      replace HW := Lib.hid (HW.out.keep hb)
      clear hb
      go_wp2_with fail
      have HBl0 := Lib.hid (Below.refl w12.heap.size w12)
      go_loopg [10] kY (fun g iv wr => ∃ i : Nat, iv = .int .i64 i ∧ i + g = kY ∧ Hid (Below w12.heap.size w12 wr))
      case atStart => exact ⟨0, rfl, by omega, HBl0⟩
      case round =>
        obtain ⟨i, rfl, hik, HBl⟩ := hrel
        clear HBl0
        by_cases hi : i < kY
        · have i1 : ((i : Int) < (kY : Int)) := by omega
          obtain ⟨ad1, -, -, -, -, -, -, -, rfl, -⟩ := HYy.out.at_ hi
          obtain ⟨ad2, -, -, -, -, -, -, -, rfl, -⟩ := HYyq.out.at_ hi
          have HZl := Lib.hid (HZ.out.keep HBl.out); have HWl := Lib.hid (HW.out.keep HBl.out)
          have z2 := Blk.at2 HZl.out (Below.refl _ _)
          go_upto_region 18 with (fail)
          clear z2
          refine wp_region_each (kss := [[], [(0, 120)], [], [(1, 121), (2, 122)], [(3, 123)], [], [(5, 125)], [], [(6, 126), (7, 127)], [(8, 128)], [(4, 124), (9, 129)], [(10, 130)]]) [(5, .pointer (some ⟨g9, 0, none⟩)), (10, .int .i64 ((i : Int))), (7, .pointer (some ⟨g11, 0, none⟩))] [fun zz _ => zz = .pointer (some ⟨g9, 2, none⟩), fun zz _ => zz = .slice (some ad1) kY cY, fun zz _ => zz = .int .i64 ((i : Int)), fun zz _ => zz = .pointer (some (Addr.add ad1 (i * 3))), Rw (140) ((q.Y) i), fun zz _ => zz = .pointer (some ⟨g11, 2, none⟩), fun zz _ => zz = .slice (some ad2) kY cYq, fun zz _ => zz = .int .i64 ((i : Int)), fun zz _ => zz = .pointer (some (Addr.add ad2 (i * 3))), Rw (140) ((q.Y) i), fun zz _ => zz = .int .i64 (rcq ((q.Y) i) ((q.Y) i)), fun zz _ => zz = .bool false] (by kernel_rfl) (by kernel_rfl) ⟨rfl, rfl, rfl, trivial⟩ ?_ ?_ ?_
          · exact ⟨fun _ _ _ h _ => h, fun _ _ _ h _ => h, fun _ _ _ h _ => h, fun _ _ _ h _ => h, fun _ _ _ h hb => h.new hb, fun _ _ _ h _ => h, fun _ _ _ h _ => h, fun _ _ _ h _ => h, fun _ _ _ h _ => h, fun _ _ _ h hb => h.new hb, fun _ _ _ h _ => h, fun _ _ _ h _ => h, trivial⟩
          · refine ⟨?_, ?_, ?_, ?_, ?_, ?_, ?_, ?_, ?_, ?_, ?_, ?_, trivial⟩
            · exact fun aa ww hb he hd => ob_plain rfl (fld_sol rfl (by decide) he.1)
            · exact fun aa ww hb he hd => ob_plain rfl (load_c28 rfl hd.1 (Blk.at2 HZl.out hb))
            · exact fun aa ww hb he hd => ob_plain rfl (gives_move _ rfl ⟨he.2.1, Below.refl _ _⟩)
            · exact fun aa ww hb he hd => ob_plain rfl (idx_rs (by omega) rfl hd.1 hd.2.1)
            · exact fun aa ww hb he hd => ob_plain rfl (load_rw rfl hd.1 (Rs.newW HYy.out (bthen HBl.out hb HBl.out.size)) (by omega))
            · exact fun aa ww hb he hd => ob_plain rfl (fld_sol rfl (by decide) he.2.2.1)
            · exact fun aa ww hb he hd => ob_plain rfl (load_c28 rfl hd.1 (Blk.at2 HWl.out hb))
            · exact fun aa ww hb he hd => ob_plain rfl (gives_move _ rfl ⟨he.2.1, Below.refl _ _⟩)
            · exact fun aa ww hb he hd => ob_plain rfl (idx_rs (by omega) rfl hd.1 hd.2.1)
            · exact fun aa ww hb he hd => ob_plain rfl (load_rw rfl hd.1 (Rs.newW HYyq.out (bthen HBl.out hb HBl.out.size)) (by omega))
            · exact fun aa ww hb he hd => ob_plain rfl (gives_call2 _ _ _ _ rfl (by kernel_rfl) (cmp_v (hd.1) (hd.2.1) (by omega)))
            · exact fun aa ww hb he hd => ob_plain rfl (gives_ne_int (rcq ((q.Y) i) ((q.Y) i)) 0 .i64 _ _ _ _ rfl hd.1 rfl ⟨congrArg Value.bool (rcq_self), Below.refl _ _⟩)
          intro vs w11 hb hR
          have e131 : vs 11 = .bool false := hR 11 (by decide)
          clear hR
          simp only [putsL, Nat.zero_add, Nat.reduceAdd, List.take_succ_cons, List.take_zero, Act.put, List.setIfInBounds_toArray, List.set_cons_zero, List.set_cons_succ]
          rw [e131]
          clear e131
          have HBn := Lib.hid (bthen HBl.out hb HBl.out.size)
          clear hb HBl HZl HWl
          go_wp2_with fail
          go_roundg (gk - 1)
          case measure => omega
          case rel => exact ⟨i + 1, by go_num, by omega, HBn⟩
        · obtain rfl : kY = i := by omega
          have HZl := Lib.hid (HZ.out.keep HBl.out)
          have z2 := Blk.at2 HZl.out (Below.refl _ _)
          go_wp2_with fail
          clear z2 HZl
          refine (awake_any _).mono ?_
          rintro e w13 ⟨rfl, hb⟩
          go_wp2_with fail
          go_ret
          exact ⟨rfl, bthen HB.out (bthen HBl.out hb HBl.out.size) HB.out.size⟩
end Go.Proofs.Ytamcibmjpmibdaa
