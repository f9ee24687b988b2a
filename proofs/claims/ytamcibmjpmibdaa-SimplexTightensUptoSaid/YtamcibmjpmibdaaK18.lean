/-
The walk of law28.SimplexTightens. Printed by gen/slaw.py.
-/
import Derived.Test.YtamcibmjpmibdaaK17
import Derived.Test.YtamcibmjpmibdaaK15
namespace Go.Proofs.Ytamcibmjpmibdaa
open Go.RowKit
set_option linter.unusedVariables false
set_option linter.unusedSimpArgs false

set_option maxRecDepth 100000 in
set_option maxHeartbeats 16000000 in
theorem tightens_walk (n m k cC cA cB : Nat) (PC PA PB : Option Addr) (Pr : Nat → Option Addr) (ln cp : Nat → Nat) (NC NB : Nat → Int) (DC DB : Nat → Nat) (NA : Nat → Nat → Int) (DA : Nat → Nat → Nat) (PR : Option Addr) (r cR : Nat) (NR : Nat → Int) (DR : Nat → Nat) (bN : Int) (bD : Nat) (w : World) (hP : PgL w n m k PC PA PB Pr ln cp NC NB DC DB NA DA) (hR : Reads w w.heap.size 2 PR r (smL NR DR r)) (sR : SmB NR DR r) (hS : -128 ≤ bN ∧ bN ≤ 127 ∧ bD ≤ 255)
    (A : Nat → Nat → Rat) (C B : Nat → Rat) (eC : C = fun i => smq (NC i) (DC i)) (eB : B = fun i => smq (NB i) (DB i)) (eA : A = fun i j => smq (NA i j) (DA i j)) :
    Calls Try.prog 8 #[.agg #[.slice PC n cC, .slice PA m cA, .slice PB k cB], .slice PR r cR, .agg #[.int .i8 bN, .int .u8 (bD : Int)]] w (fun e w' => e = .returned (.bool true) ∧ Below w.heap.size w w') := by
  have HRw := Lib.hid hR; have SR := Lib.hid sR; have HSb := Lib.hid hS; have EC := Lib.hid eC; have EB := Lib.hid eB; have EA := Lib.hid eA; clear hR sR hS eC eB eA
  have HPg := Lib.hid hP.p; have HLn := Lib.hid hP.l; clear hP
  go_enter Try.func8, Try.ntmps8
  go_upto_region 1 with (fail)
  have hbw := bthen (al w (.cells #[.slice PC n cC, .slice PA m cA, .slice PB k cB] 25)) (al _ (.cells #[.int .i8 bN, .int .u8 (bD : Int)] 52)) (by simp)
  have T := Lib.hid ((Blk.new w 25 #[.slice PC n cC, .slice PA m cA, .slice PB k cB]).keep (al _ (.cells #[.int .i8 bN, .int .u8 (bD : Int)] 52)))
  have S := Lib.hid (Blk.new (w.alloc (.cells #[.slice PC n cC, .slice PA m cA, .slice PB k cB] 25)) 52 #[.int .i8 bN, .int .u8 (bD : Int)])
  rw [show (w.alloc (.cells #[.slice PC n cC, .slice PA m cA, .slice PB k cB] 25)).heap.size = w.heap.size + 1 from by simp] at S
  have HB := Lib.hid hbw
  replace HPg := Lib.hid (HPg.out.new hbw)
  clear hbw
  generalize (w.alloc (.cells #[.slice PC n cC, .slice PA m cA, .slice PB k cB] 25)).alloc (.cells #[.int .i8 bN, .int .u8 (bD : Int)] 52) = w1 at *
  obtain ⟨g3, hg3⟩ : ∃ g3, g3 = w.heap.size := ⟨_, rfl⟩
  obtain ⟨g5, hg5⟩ : ∃ g5, g5 = w.heap.size + 1 := ⟨_, rfl⟩
  rw [← hg5] at S ⊢
  rw [← hg3] at T ⊢
  have HGg3 := Lib.hid (show w.heap.size ≤ g3 ∧ w.heap.size ≤ g5 from by omega)
  clear hg3 hg5
  have c0 := Blk.at0 T.out (Below.refl _ _); have c1 := Blk.at1 T.out (Below.refl _ _); have c2 := Blk.at2 T.out (Below.refl _ _)
  go_wp2_with fail
  refine (great_any n m k cC cA cB PC PA PB w1).mono ?_
  rintro e w2 ⟨t, rfl, hb, ht⟩
  have HT := Lib.hid ht; clear ht c0 c1 c2
  replace HPg := Lib.hid (HPg.out.new hb)
  replace HB := Lib.hid (bthen HB.out hb HB.out.size)
  replace T := Lib.hid (T.out.keep hb)
  replace S := Lib.hid (S.out.keep hb)
  clear hb
  have c0 := Blk.at0 T.out (Below.refl _ _); have c1 := Blk.at1 T.out (Below.refl _ _); have c2 := Blk.at2 T.out (Below.refl _ _)
  by_cases htt : t = true
  · subst htt
    clear HT
    go_wp2_with fail
    refine (awake_any _).mono ?_
    rintro e w3 ⟨rfl, hb⟩
    go_wp2_with fail
    go_ret
    exact ⟨rfl, bthen HB.out hb HB.out.size⟩
  obtain rfl : t = false := by simpa using htt
  clear htt
  obtain ⟨hn5, hm5, hk6⟩ := HT.out.1 rfl
  clear HT
  by_cases hr : r = n
  rotate_left
  · have h1 : ¬ ((r : Int) = (n : Int)) := by omega
    go_wp2_with fail
    refine (awake_any _).mono ?_
    rintro e w3 ⟨rfl, hb⟩
    go_wp2_with fail
    go_ret
    exact ⟨rfl, bthen HB.out hb HB.out.size⟩
  subst r
  go_wp2_with fail
  refine (of_any n m k cC cA cB PC PA PB Pr ln cp NC NB DC DB NA DA w2 HPg.out (by omega) (by omega) (by omega) HLn.out A C B EC.out EB.out EA.out smq_small).mono ?_
  rintro e w3 ⟨YC, YA, YB, QC, QA, QB, Yr, Qr, yp, qp, yc, ya, yb, qc, qa, qb, rfl, hpr, hrq, hb⟩
  clear c0 c1 c2
  replace HPg := Lib.hid (HPg.out.new hb)
  replace HB := Lib.hid (bthen HB.out hb HB.out.size)
  replace T := Lib.hid (T.out.keep hb)
  replace S := Lib.hid (S.out.keep hb)
  clear hb
  have HP := Lib.hid hpr; have HQ := Lib.hid hrq; clear hpr hrq
  go_upto_region 4 with (fail)
  have hbw := bthen (al w3 (.cells #[.slice YC n yc, .slice YA m ya, .slice YB k yb] 31)) (al _ (.cells #[.slice QC n qc, .slice QA m qa, .slice QB k qb] 35)) (by simp)
  have HY := Lib.hid ((Blk.new w3 31 #[.slice YC n yc, .slice YA m ya, .slice YB k yb]).keep (al _ (.cells #[.slice QC n qc, .slice QA m qa, .slice QB k qb] 35)))
  have HR := Lib.hid (Blk.new (w3.alloc (.cells #[.slice YC n yc, .slice YA m ya, .slice YB k yb] 31)) 35 #[.slice QC n qc, .slice QA m qa, .slice QB k qb])
  rw [show (w3.alloc (.cells #[.slice YC n yc, .slice YA m ya, .slice YB k yb] 31)).heap.size = w3.heap.size + 1 from by simp] at HR
  replace HPg := Lib.hid (HPg.out.new hbw)
  replace HB := Lib.hid (bthen HB.out hbw HB.out.size)
  replace T := Lib.hid (T.out.keep hbw)
  replace S := Lib.hid (S.out.keep hbw)
  replace HP := Lib.hid (HP.out.new hbw)
  replace HQ := Lib.hid (HQ.out.new hbw)
  clear hbw
  generalize (w3.alloc (.cells #[.slice YC n yc, .slice YA m ya, .slice YB k yb] 31)).alloc (.cells #[.slice QC n qc, .slice QA m qa, .slice QB k qb] 35) = w4 at *
  obtain ⟨g7, hg7⟩ : ∃ g7, g7 = w3.heap.size := ⟨_, rfl⟩
  obtain ⟨g8, hg8⟩ : ∃ g8, g8 = w3.heap.size + 1 := ⟨_, rfl⟩
  rw [← hg8] at HR ⊢
  rw [← hg7] at HY ⊢
  have HGg7 := Lib.hid (show w3.heap.size ≤ g7 ∧ w3.heap.size ≤ g8 from by omega)
  clear hg7 hg8
  have q0 := Blk.at0 HR.out (Below.refl _ _); have q1 := Blk.at1 HR.out (Below.refl _ _); have q2 := Blk.at2 HR.out (Below.refl _ _)
  go_wp2_with fail
  refine (rvalid_any n m k qc qa qb QC QA QB Qr ln qp A C B w4 HQ.out (by omega)).mono ?_
  rintro e w5 ⟨t, rfl, hb, ht⟩
  clear q0 q1 q2
  have HT := Lib.hid ht; clear ht
  replace HPg := Lib.hid (HPg.out.new hb)
  replace HB := Lib.hid (bthen HB.out hb HB.out.size)
  replace T := Lib.hid (T.out.keep hb)
  replace S := Lib.hid (S.out.keep hb)
  replace HP := Lib.hid (HP.out.new hb)
  replace HQ := Lib.hid (HQ.out.new hb)
  replace HY := Lib.hid (HY.out.keep hb)
  replace HR := Lib.hid (HR.out.keep hb)
  clear hb
  by_cases htt : t = false
  · subst htt
    go_wp2_with fail
    refine (awake_any _).mono ?_
    rintro e w6 ⟨rfl, hb⟩
    go_wp2_with fail
    go_ret
    exact ⟨rfl, bthen HB.out hb HB.out.size⟩
  obtain rfl : t = true := by simpa using htt
  clear htt
  obtain ⟨hmk, hl⟩ := HT.out.1 rfl
  clear HT
  subst hmk
  have HL := Lib.hid hl; clear hl
  have HGv := Lib.hid HB.out.size
  have HP0 := Lib.hid (HP.out.flat HL.out)
  have HN79 := Lib.hid (show g7 < w5.heap.size from HY.out.lt)
  have HB5 := Lib.hid (Below.refl w5.heap.size w5)
  clear HP HQ HR T HL HPg HLn
  have y0 := Blk.at0 HY.out (Below.refl _ _); have y1 := Blk.at1 HY.out (Below.refl _ _); have y2 := Blk.at2 HY.out (Below.refl _ _)
  go_upto_region 7 with (fail)
  clear y0 y1 y2
  have hbw := al w5 (.cells #[.slice YC n yc, .slice YA m ya, .slice YB m yb] 31)
  have HU := Lib.hid (Blk.new w5 31 #[.slice YC n yc, .slice YA m ya, .slice YB m yb])
  replace HB := Lib.hid (bthen HB.out hbw HB.out.size)
  replace S := Lib.hid (S.out.keep hbw)
  replace HY := Lib.hid (HY.out.keep hbw)
  replace HB5 := Lib.hid (bthen HB5.out hbw HB5.out.size)
  clear hbw
  generalize w5.alloc (.cells #[.slice YC n yc, .slice YA m ya, .slice YB m yb] 31) = w6 at *
  obtain ⟨g9, hg9⟩ : ∃ g9, g9 = w5.heap.size := ⟨_, rfl⟩
  rw [← hg9] at HU ⊢
  have HGg9 := Lib.hid (show w5.heap.size ≤ g9 from by omega)
  clear hg9
  have HN9 := Lib.hid (show g7 ≠ g9 by have := HN79.out; have := HGg9.out; omega)
  obtain ⟨bs, hbs⟩ : ∃ bs, bs = w6.heap.size := ⟨_, rfl⟩
  have HBs := Lib.hid hbs; clear hbs
  refine wp_region_joins (kss := [[], [], [(1, 36)], [(0, 35), (2, 37)], [], [(4, 39)], [(5, 40)], [(6, 41)]]) [(7, .pointer (some ⟨g7, 0, none⟩)), (1, .slice PR n cR)] [fun v w' => ∃ g0 : Nat, v = .slice (some ⟨g0, 0, none⟩) 0 0 ∧ bs ≤ g0 ∧ Blk w' g0 28 #[], fun zz _ => zz = .pointer (some ⟨g7, 1, none⟩), fun zz _ => zz = .slice YA m ya, fun v w' => ∃ (A0 : Option Addr) (c0 : Nat), v = .slice A0 m c0 ∧ OwnC w' bs 28 1 (.slice A0 m c0) m ((List.range m).map fun i => Value.slice (Yr i) n (yp i)), fun zz _ => zz = .slice PR n cR, fun v w' => ∃ (A0 : Option Addr) (c0 : Nat), v = .slice A0 n c0 ∧ Reads w' w'.heap.size 2 A0 n (qsL (fun i => smq (NR i) (DR i)) n), fun v w' => ∃ (A0 : Option Addr) (c0 : Nat), v = .slice A0 n c0 ∧ OR w' bs (.slice A0 n c0) n (PN w' 2 (fun i => smq (NR i) (DR i))), fun v w' => ∃ (g0 : Nat) (A0 : Option Addr) (c0 : Nat), v = .slice (some ⟨g0, 0, none⟩) 1 1 ∧ Blk w' g0 28 #[.slice A0 n c0] ∧ OR w' bs (.slice A0 n c0) n (PN w' 2 (fun i => smq (NR i) (DR i)))] 8 (by kernel_rfl) ⟨rfl, rfl, trivial⟩ [false, false, false, false, false, false, false, false] ?_ ?_ ?_
  · exact ⟨fun _ _ _ ⟨g0, h1, h2, h3⟩ hb => ⟨g0, h1, h2, h3.keep hb⟩, fun _ _ _ h _ => h, fun _ _ _ h _ => h, fun _ _ _ ⟨A0, c0, h1, h2⟩ hb => ⟨A0, c0, h1, h2.below hb⟩, fun _ _ _ h _ => h, fun _ _ _ ⟨A0, c0, h1, h2⟩ hb => ⟨A0, c0, h1, (h2.below hb).more hb.size⟩, fun _ _ _ ⟨A0, c0, h1, h2⟩ hb => ⟨A0, c0, h1, h2.newN hb⟩, fun _ _ _ ⟨g0, A0, c0, h1, h2, h3⟩ hb => ⟨g0, A0, c0, h1, h2.keep hb, h3.newN hb⟩, trivial⟩
  · refine ⟨?_, ?_, ?_, ?_, ?_, ?_, ?_, ?_, trivial⟩
    · exact fun aa ww hb he hd => ob_plain rfl (gives_none rfl Try.underlying29 (by kernel_rfl) (by rw [HBs.out]; exact hb.size))
    · exact fun aa ww hb he hd => ob_plain rfl (fld_prb rfl (by decide) he.1)
    · exact fun aa ww hb he hd => ob_plain rfl (load_c29 rfl hd.1 (Blk.at1 HY.out hb))
    · exact fun aa ww hb he hd => ob_plain rfl (by obtain ⟨g0, h1, h2, h3⟩ := hd.1; exact gives_copy_rows (s := .tmp 35) (x := .tmp 37) rfl bs g0 h1 h3 h2 _ YA m ya Yr (fun _ => n) yp hd.2.1 (PrW.new HP0.out (bthen HB5.out hb HB5.out.size)).a (by omega))
    · exact fun aa ww hb he hd => ob_plain rfl (gives_move _ rfl ⟨he.2.1, Below.refl _ _⟩)
    · exact fun aa ww hb he hd => ob_plain rfl (gives_call1 _ _ _ rfl (by kernel_rfl) (by rw [show aa.eval (.tmp 39) = .slice PR n cR from hd.1]; exact (qs_any n cR PR NR DR _ ((HRw.out.below (bthen HB.out hb HB.out.size)).more (bthen HB.out hb HB.out.size).size) SR.out (by omega)).mono (fun _ _ ⟨A0, c0, h1, h2, h3⟩ => ⟨_, h1, ⟨A0, c0, rfl, Reads.of_own h2.own⟩, h3⟩)))
    · exact fun aa ww hb he hd => ob_plain rfl (by obtain ⟨A1, c1, q1, q2⟩ := hd.1; exact gives_call1 _ _ _ rfl (by kernel_rfl) (by rw [show aa.eval (.tmp 40) = _ from q1]; exact (Rats_any n c1 A1 (fun i => smq (NR i) (DR i)) _ q2 (fun _ _ => smq_small _ _) (by omega)).mono (fun _ _ ⟨A0, c0, h1, h2, h3⟩ => ⟨_, h1, ⟨A0, c0, rfl, h2.lower (by rw [HBs.out]; exact hb.size)⟩, h3⟩)))
    · exact fun aa ww hb he hd => ob_plain rfl (by obtain ⟨A0, c0, h1, h2⟩ := hd.1; exact gives_mono (gives_bs_rows rfl h1) (fun v w' ⟨⟨g0, h3, h4⟩, h5⟩ => ⟨⟨g0, A0, c0, h3, h4, h2.newN h5⟩, h5⟩))
  intro vs w7 hb hR
  have r38 := hR 3 (by decide)
  have r42 := hR 7 (by decide)
  clear hR
  simp only [putsL, Nat.zero_add, Nat.reduceAdd, List.take_succ_cons, List.take_zero, Act.put, List.setIfInBounds_toArray, List.set_cons_zero, List.set_cons_succ]
  obtain ⟨A8, c8, e38, o38⟩ := r38
  obtain ⟨g0, A6, c6, e42, hb0, hr0⟩ := r42
  rw [e38, e42]
  clear e38 e42
  have hbb := hb; clear hb
  show wpOps _ _ _ [8, 9, 10] _ _
  refine wpOps_next rfl rfl (wp_app_rows _ _ rfl bs (.slice A8 m c8) m _ rfl o38 g0 A6 n c6 rfl hb0 (by omega) (by rw [HBs.out]; exact hbb.size) ?_)
  intro v' w8 ho hgr hor kp
  obtain ⟨A9, c9, rfl⟩ := own_form ho.own
  show wpOps _ _ _ _ (Act.put _ (some 43) _) _
  simp only [Act.put, List.setIfInBounds_toArray, List.set_cons_zero, List.set_cons_succ]
  refine wpOps_next rfl rfl (wp_of_gives (fld_prb_w rfl (by decide) rfl) ?_)
  rintro _ w8 ⟨rfl, rfl⟩
  show wpOps _ _ _ _ (Act.put _ (some 44) _) _
  simp only [Act.put, List.setIfInBounds_toArray, List.set_cons_zero, List.set_cons_succ]
  have HR9 := Lib.hid (hr0.beside (u := .slice A8 m c8) o38.own (by decide) hgr (fun _ _ _ hv => PN.keep hv kp))
  have HO9 := Lib.hid ho
  have hba : Below w6.heap.size w6 w8 := Below.appended hbb o38.own hgr hbb.size (by rw [HBs.out]; exact Nat.le_refl _)
  clear ho hgr hor kp hb0 hr0 o38 hbb
  replace HB := Lib.hid (bthen HB.out hba HB.out.size)
  replace S := Lib.hid (S.out.keep hba)
  replace HY := Lib.hid (HY.out.keep hba)
  replace HB5 := Lib.hid (bthen HB5.out hba HB5.out.size)
  replace HU := Lib.hid (HU.out.keep hba)
  clear hba
  have HGw := Lib.hid (show w.heap.size ≤ g9 by have := HGv.out; have := HGg9.out; omega)
  refine wpOps_next rfl rfl (wp_store_c29 rfl rfl rfl rfl (Blk.at1 HU.out (Below.refl _ _)) (HU.out.frozen 1) ?_)
  have hne := Blk.ne_ S.out HU.out (by decide)
  have hkn := KeepsN.blk HU.out (i := 1) (by show 1 < 3; omega) (by intro x; simp) (.slice A9 (m + 1) c9)
  replace S := Lib.hid (S.out.far (p := ⟨g9, 1, none⟩) hne (.slice A9 (m + 1) c9))
  replace HY := Lib.hid (HY.out.far (p := ⟨g9, 1, none⟩) HN9.out (.slice A9 (m + 1) c9))
  replace HB := Lib.hid (HB.out.setCell (p := ⟨g9, 1, none⟩) HGw.out (.slice A9 (m + 1) c9))
  replace HB5 := Lib.hid (HB5.out.setCell (p := ⟨g9, 1, none⟩) HGg9.out (.slice A9 (m + 1) c9))
  replace HR9 := Lib.hid (HR9.out.blk HU.out (by decide) (only_setCell (World.grownBy.refl w8 (some g9)) (p := ⟨g9, 1, none⟩) (.inl rfl) (.slice A9 (m + 1) c9)) (fun _ _ _ hv => PN.keep hv hkn))
  replace HO9 := Lib.hid (HO9.out.blk HU.out (by decide) (only_setCell (World.grownBy.refl w8 (some g9)) (p := ⟨g9, 1, none⟩) (.inl rfl) (.slice A9 (m + 1) c9)))
  replace HU := Lib.hid (show Blk _ g9 31 #[.slice YC n yc, .slice A9 (m + 1) c9, .slice YB m yb] from HU.out.set_ 1 (.slice A9 (m + 1) c9))
  clear hne hkn
  show Exit.then _ _ _ _ _
  generalize w8.setCell ⟨g9, 1, none⟩ (.slice A9 (m + 1) c9) = w9 at *
  obtain ⟨bs2, hbs⟩ : ∃ bs2, bs2 = w9.heap.size := ⟨_, rfl⟩
  have HBs2 := Lib.hid hbs; clear hbs
  go_upto_region 8 with (fail)
  refine wp_region_join (kss := [[], [], [(1, 46)], [(0, 45), (2, 47)], [], [(4, 49)], [(5, 50)], [(6, 51)]]) [(7, .pointer (some ⟨g7, 0, none⟩)), (5, .pointer (some ⟨g5, 0, none⟩))] [fun v w' => ∃ g0 : Nat, v = .slice (some ⟨g0, 0, none⟩) 0 0 ∧ bs2 ≤ g0 ∧ Blk w' g0 41 #[], fun zz _ => zz = .pointer (some ⟨g7, 2, none⟩), fun zz _ => zz = .slice YB m yb, fun v w' => ∃ (A0 : Option Addr) (c0 : Nat), v = .slice A0 m c0 ∧ OR w' bs2 (.slice A0 m c0) m (PW w' 2 B), fun zz _ => zz = .agg #[.int .i8 bN, .int .u8 (bD : Int)], fun v w' => ∃ g0 : Nat, v = .slice (some ⟨g0, 0, none⟩) 1 1 ∧ Blk w' g0 52 #[.int .i8 bN, .int .u8 (bD : Int)], fun v w' => ∃ (A0 : Option Addr) (c0 : Nat), v = .slice A0 1 c0 ∧ Reads w' w'.heap.size 2 A0 1 (qsL (fun _ => smq bN bD) 1), fun v w' => ∃ (A0 : Option Addr) (c0 : Nat), v = .slice A0 1 c0 ∧ Rs w' w'.heap.size A0 1 (PW w' 2 (fun _ => smq bN bD))] 8 [] (by kernel_rfl) (by kernel_rfl) ⟨rfl, rfl, trivial⟩ [false, false, false, false, false, false, false, false] ?_ ?_ ?_ ?_
  · exact fun i hi => absurd hi (by simp)
  · exact ⟨fun _ _ _ ⟨g0, h1, h2, h3⟩ hb => ⟨g0, h1, h2, h3.keep hb⟩, fun _ _ _ h _ => h, fun _ _ _ h _ => h, fun _ _ _ ⟨A0, c0, h1, h2⟩ hb => ⟨A0, c0, h1, h2.below hb fun _ _ _ hv => PW.keep hv (KeepsN.below hb)⟩, fun _ _ _ h _ => h, fun _ _ _ ⟨g0, h1, h2⟩ hb => ⟨g0, h1, h2.keep hb⟩, fun _ _ _ ⟨A0, c0, h1, h2⟩ hb => ⟨A0, c0, h1, (h2.below hb).more hb.size⟩, fun _ _ _ ⟨A0, c0, h1, h2⟩ hb => ⟨A0, c0, h1, Rs.newW h2 hb⟩, trivial⟩
  · refine ⟨?_, ?_, ?_, ?_, ?_, ?_, ?_, ?_, trivial⟩
    · exact fun aa ww hb he hd => ob_plain rfl (gives_none rfl Try.underlying28 (by kernel_rfl) (by rw [HBs2.out]; exact hb.size))
    · exact fun aa ww hb he hd => ob_plain rfl (fld_prb rfl (by decide) he.1)
    · exact fun aa ww hb he hd => ob_plain rfl (load_c28 rfl hd.1 (Blk.at2 HY.out hb))
    · exact fun aa ww hb he hd => ob_plain rfl (by obtain ⟨g0, h1, h2, h3⟩ := hd.1; exact gives_copy_rat (s := .tmp 45) (x := .tmp 47) rfl bs2 g0 h1 h3 h2 _ YB m yb 2 B hd.2.1 (PrW.new HP0.out (bthen HB5.out hb HB5.out.size)).bb (by omega))
    · exact fun aa ww hb he hd => ob_plain rfl (load_smb rfl he.2.1 (Blk.keep S.out hb))
    · exact fun aa ww hb he hd => ob_plain rfl (gives_bs_small rfl hd.1)
    · exact fun aa ww hb he hd => ob_plain rfl (by obtain ⟨g0, q1, q2⟩ := hd.1; exact gives_call1 _ _ _ rfl (by kernel_rfl) (by rw [show aa.eval (.tmp 50) = _ from q1]; exact (qs_any 1 1 _ (fun _ => bN) (fun _ => bD) _ (Reads.of_blk (n := 1) q2 rfl) (fun _ _ => HSb.out) (by omega)).mono (fun _ _ ⟨A0, c0, h1, h2, h3⟩ => ⟨_, h1, ⟨A0, c0, rfl, Reads.of_own h2.own⟩, h3⟩)))
    · exact fun aa ww hb he hd => ob_plain rfl (by obtain ⟨A1, c1, q1, q2⟩ := hd.1; exact gives_call1 _ _ _ rfl (by kernel_rfl) (by rw [show aa.eval (.tmp 51) = _ from q1]; exact (Rats_any 1 c1 A1 (fun _ => smq bN bD) _ q2 (fun _ _ => smq_small _ _) (by omega)).mono (fun _ _ ⟨A0, c0, h1, h2, h3⟩ => ⟨_, h1, ⟨A0, c0, rfl, h2.rs.toW⟩, h3⟩)))
  intro vs w10 hb hR _
  have r48 := hR 3 (by decide)
  have r52 := hR 7 (by decide)
  clear hR
  simp only [putsL, Nat.zero_add, Nat.reduceAdd, List.take_succ_cons, List.take_zero, Act.put, List.setIfInBounds_toArray, List.set_cons_zero, List.set_cons_succ]
  obtain ⟨A8, c8, e48, o48⟩ := r48
  obtain ⟨A1, c1, e52, hr1⟩ := r52
  rw [e48, e52]
  clear e48 e52
  have hbb := hb; clear hb
  show wpAny _ _ _ _ 3 _ _ _
  refine wpAny_next (i := 8) (by kernel_rfl) rfl rfl (wp_push_one _ _ rfl bs2 (.slice A8 m c8) m _ rfl o48 w10.heap.size A1 c1 _ rfl hr1 (by omega) (by rw [HBs2.out]; exact hbb.size) ?_)
  intro v' w11 ho hgr hor kp
  have hB9 := ho (PW w11 2 (put1 B m (smq bN bD))) (fun j u hj hv => by show Rw 2 (put1 B m _ j) u w11; rw [put1_ne _ _ (by omega)]; exact PW.keep hv kp) (fun u hv => by show Rw 2 (put1 B m _ m) u w11; rw [put1_at]; exact PW.keep (f := (fun _ => smq bN bD)) (j := 0) hv kp)
  obtain ⟨A10, c10, rfl⟩ := hB9.form
  show wpAny _ _ _ _ _ _ (Act.put _ (some 53) _) _
  simp only [Act.put, List.setIfInBounds_toArray, List.set_cons_zero, List.set_cons_succ]
  have hba : Below w9.heap.size w9 w11 := by obtain ⟨xs, h1, h2⟩ := o48; exact Below.appended hbb h1.own hgr hbb.size (by rw [HBs2.out]; exact Nat.le_refl _)
  have HB9 := Lib.hid hB9
  clear hB9 ho hgr hor kp hr1 o48 hbb
  replace HB := Lib.hid (bthen HB.out hba HB.out.size)
  replace S := Lib.hid (S.out.keep hba)
  replace HY := Lib.hid (HY.out.keep hba)
  replace HB5 := Lib.hid (bthen HB5.out hba HB5.out.size)
  replace HU := Lib.hid (HU.out.keep hba)
  replace HR9 := Lib.hid (HR9.out.newN hba)
  replace HO9 := Lib.hid (HO9.out.below hba)
  clear hba
  refine wpAny_next (i := 9) (by kernel_rfl) rfl rfl (wp_of_gives (fld_prb_w rfl (by decide) rfl) ?_)
  rintro _ w11 ⟨rfl, rfl⟩
  show wpAny _ _ _ _ _ _ (Act.put _ (some 54) _) _
  simp only [Act.put, List.setIfInBounds_toArray, List.set_cons_zero, List.set_cons_succ]
  refine wpAny_next (i := 10) (by kernel_rfl) rfl rfl (store_c28 rfl rfl rfl rfl (Blk.at2 HU.out (Below.refl _ _)) (HU.out.frozen 2) ?_)
  have hne := Blk.ne_ S.out HU.out (by decide)
  have hkn := KeepsN.blk HU.out (i := 2) (by show 2 < 3; omega) (by intro x; simp) (.slice A10 (m + 1) c10)
  replace S := Lib.hid (S.out.far (p := ⟨g9, 2, none⟩) hne (.slice A10 (m + 1) c10))
  replace HY := Lib.hid (HY.out.far (p := ⟨g9, 2, none⟩) HN9.out (.slice A10 (m + 1) c10))
  replace HB := Lib.hid (HB.out.setCell (p := ⟨g9, 2, none⟩) HGw.out (.slice A10 (m + 1) c10))
  replace HB5 := Lib.hid (HB5.out.setCell (p := ⟨g9, 2, none⟩) HGg9.out (.slice A10 (m + 1) c10))
  replace HR9 := Lib.hid (HR9.out.blk HU.out (by decide) (only_setCell (World.grownBy.refl w11 (some g9)) (p := ⟨g9, 2, none⟩) (.inl rfl) (.slice A10 (m + 1) c10)) (fun _ _ _ hv => PN.keep hv hkn))
  replace HO9 := Lib.hid (HO9.out.blk HU.out (by decide) (only_setCell (World.grownBy.refl w11 (some g9)) (p := ⟨g9, 2, none⟩) (.inl rfl) (.slice A10 (m + 1) c10)))
  replace HB9 := Lib.hid (HB9.out.blk HU.out (by decide) (only_setCell (World.grownBy.refl w11 (some g9)) (p := ⟨g9, 2, none⟩) (.inl rfl) (.slice A10 (m + 1) c10)) (Q := PW (w11.setCell ⟨g9, 2, none⟩ (.slice A10 (m + 1) c10)) 2 (put1 B m (smq bN bD))) (fun _ _ _ hv => PW.keep hv hkn))
  replace HU := Lib.hid (show Blk _ g9 31 #[.slice YC n yc, .slice A9 (m + 1) c9, .slice A10 (m + 1) c10] from HU.out.set_ 2 (.slice A10 (m + 1) c10))
  clear hne hkn
  refine wpAny_end (by kernel_rfl) (calm_normal ?_) _
  generalize w11.setCell ⟨g9, 2, none⟩ (.slice A10 (m + 1) c10) = w12 at *
  have HPy := Lib.hid (PrW.new HP0.out HB5.out)
  have HPu := Lib.hid (HPy.out.add HO9.out HR9.out.rs.toW HB9.out.rs)
  clear HP0 HB5 HO9 HR9 HB9 S HRw SR HSb HBs HBs2 HN79 HN9 HGw HGv HGg9
  have HF := Lib.hid (frac_smq (n := n) (m := m) EC.out EB.out EA.out)
  have HF2 := Lib.hid (frac_more HF.out (F := (fun i => smq (NR i) (DR i))) (b := smq bN bD) (fun _ _ => (smq_frac _ _).more (by omega)) ((smq_frac _ _).more (by omega)))
  have y0 := Blk.at0 HY.out (Below.refl _ _); have y1 := Blk.at1 HY.out (Below.refl _ _); have y2 := Blk.at2 HY.out (Below.refl _ _)
  go_wp2_with fail
  refine (solve_any n m 2 yc ya yb YC YA YB Yr (fun _ => n) yp A C B w12 HPy.out (fun _ _ => rfl) (by omega) (by omega) (by omega) HF.out).mono ?_
  rintro e w13 ⟨AX, kX, cX, AY, kY, cY, AR, kR, cR, s, A0, k0, c0, B0, m0, d0, q, rfl, hs, hln, hX, hY, hR, hV, hb⟩
  replace HB := Lib.hid (bthen HB.out hb HB.out.size)
  replace HY := Lib.hid (HY.out.keep hb)
  replace HU := Lib.hid (HU.out.keep hb)
  replace HPy := Lib.hid (HPy.out.new hb)
  replace HPu := Lib.hid (HPu.out.new hb)
  clear hb
  have HS := Lib.hid hs; have HV := Lib.hid hV; clear hs hV
  clear hX hY hR hln
  go_upto_region 10 with (fail)
  have hbw := al w13 (.cells #[.int .i64 (q.out : Int), .slice AX kX cX, .slice AY kY cY, .slice AR kR cR, .bool s, .slice A0 k0 c0, .slice B0 m0 d0] 43)
  have HZ := Lib.hid (Blk.new w13 43 #[.int .i64 (q.out : Int), .slice AX kX cX, .slice AY kY cY, .slice AR kR cR, .bool s, .slice A0 k0 c0, .slice B0 m0 d0])
  replace HB := Lib.hid (bthen HB.out hbw HB.out.size)
  replace HY := Lib.hid (HY.out.keep hbw)
  replace HU := Lib.hid (HU.out.keep hbw)
  replace HPy := Lib.hid (HPy.out.new hbw)
  replace HPu := Lib.hid (HPu.out.new hbw)
  replace HV := Lib.hid (HV.out.new hbw)
  clear hbw
  generalize w13.alloc (.cells #[.int .i64 (q.out : Int), .slice AX kX cX, .slice AY kY cY, .slice AR kR cR, .bool s, .slice A0 k0 c0, .slice B0 m0 d0] 43) = w14 at *
  obtain ⟨g10, hg10⟩ : ∃ g10, g10 = w13.heap.size := ⟨_, rfl⟩
  rw [← hg10] at HZ ⊢
  have HGg10 := Lib.hid (show w13.heap.size ≤ g10 from by omega)
  clear hg10
  clear y0 y1 y2

  have u0 := Blk.at0 HU.out (Below.refl _ _); have u1 := Blk.at1 HU.out (Below.refl _ _); have u2 := Blk.at2 HU.out (Below.refl _ _)
  go_wp2_with fail
  refine (solve_any n (m + 1) 2 yc c9 c10 YC A9 A10 (put1 Yr m A6) (fun _ => n) (put1 yp m c6) (put1 A m (fun i => smq (NR i) (DR i))) C (put1 B m (smq bN bD)) w14 HPu.out (fun _ _ => rfl) (by omega) (by omega) (by omega) HF2.out).mono ?_
  rintro e w15 ⟨AXq, kXq, cXq, AYq, kYq, cYq, ARq, kRq, cRq, sq, A0q, k0q, c0q, B0q, m0q, d0q, qq, rfl, hs, hln, hX, hY, hR, hV, hb⟩
  replace HB := Lib.hid (bthen HB.out hb HB.out.size)
  replace HY := Lib.hid (HY.out.keep hb)
  replace HU := Lib.hid (HU.out.keep hb)
  replace HPy := Lib.hid (HPy.out.new hb)
  replace HPu := Lib.hid (HPu.out.new hb)
  replace HV := Lib.hid (HV.out.new hb)
  replace HZ := Lib.hid (HZ.out.keep hb)
  clear hb
  have HSq := Lib.hid hs; have HVq := Lib.hid hV; clear hs hV
  clear hX hY hR hln
  go_upto_region 11 with (fail)
  have hbw := al w15 (.cells #[.int .i64 (qq.out : Int), .slice AXq kXq cXq, .slice AYq kYq cYq, .slice ARq kRq cRq, .bool sq, .slice A0q k0q c0q, .slice B0q m0q d0q] 43)
  have HW := Lib.hid (Blk.new w15 43 #[.int .i64 (qq.out : Int), .slice AXq kXq cXq, .slice AYq kYq cYq, .slice ARq kRq cRq, .bool sq, .slice A0q k0q c0q, .slice B0q m0q d0q])
  replace HB := Lib.hid (bthen HB.out hbw HB.out.size)
  replace HY := Lib.hid (HY.out.keep hbw)
  replace HU := Lib.hid (HU.out.keep hbw)
  replace HPy := Lib.hid (HPy.out.new hbw)
  replace HPu := Lib.hid (HPu.out.new hbw)
  replace HV := Lib.hid (HV.out.new hbw)
  replace HZ := Lib.hid (HZ.out.keep hbw)
  replace HVq := Lib.hid (HVq.out.new hbw)
  clear hbw
  generalize w15.alloc (.cells #[.int .i64 (qq.out : Int), .slice AXq kXq cXq, .slice AYq kYq cYq, .slice ARq kRq cRq, .bool sq, .slice A0q k0q c0q, .slice B0q m0q d0q] 43) = w16 at *
  obtain ⟨g12, hg12⟩ : ∃ g12, g12 = w15.heap.size := ⟨_, rfl⟩
  rw [← hg12] at HW ⊢
  have HGg12 := Lib.hid (show w15.heap.size ≤ g12 from by omega)
  clear hg12
  clear u0 u1 u2
  have hc := HS.out.cert.tightens (fun i hi => put1_ne _ _ (by omega)) (fun i hi => put1_ne _ _ (by omega)) HSq.out.cert
  rcases HS.out.cert.outs with ho | ho | ho
  · have HO := Lib.hid ho
    have z0 : w16.cell? ⟨g10, 0, none⟩ = some (.int .i64 0) := by have hh := Blk.at0 HZ.out (Below.refl _ _); rw [ho] at hh; exact hh
    rcases hc.2 ho with h | ⟨h, hv⟩
    · skip
      have x0 : w16.cell? ⟨g12, 0, none⟩ = some (.int .i64 1) := by have hh := Blk.at0 HW.out (Below.refl _ _); rw [h] at hh; exact hh
      clear hc ho h HO
      go_wp2_with fail
      refine (awake_any _).mono ?_
      rintro e w17 ⟨rfl, hb⟩
      go_wp2_with fail
      go_ret
      exact ⟨rfl, bthen HB.out hb HB.out.size⟩
    · have HV2 := Lib.hid hv; have HO2 := Lib.hid h
      have x0 : w16.cell? ⟨g12, 0, none⟩ = some (.int .i64 0) := by have hh := Blk.at0 HW.out (Below.refl _ _); rw [h] at hh; exact hh
      clear hc ho h hv
      go_upto_region 17 with (fail)
      clear z0 x0
      refine wp_region_seq (kss := [[], [(0, 83)], [(1, 84)], [(2, 85)], [(3, 86)], [(3, 86), (4, 87)], [(3, 86), (5, 88)], [(3, 86), (6, 89)], [(7, 90)], [(7, 90), (8, 91)], [(7, 90)], [(7, 90), (10, 93)], [(7, 90), (9, 92), (11, 94)], [(7, 90), (12, 95)], [(3, 86), (7, 90), (13, 96)], [(3, 86), (14, 97)], [(15, 98)], [(16, 99)], [(16, 99), (17, 100)], [(18, 101)]]) [(12, .pointer (some ⟨g12, 0, none⟩)), (10, .pointer (some ⟨g10, 0, none⟩))] [fun zz _ => zz = .pointer (some ⟨g12, 0, none⟩), fun zz _ => zz = .int .i64 ((qq.out : Int)), fun zz _ => zz = .bool false, fun zz _ => zz = .bool false, fun zz _ => zz = .pointer (some ⟨g12, 0, none⟩), fun zz _ => zz = .int .i64 ((qq.out : Int)), fun zz _ => zz = .bool true, fun zz _ => zz = .bool true, fun zz _ => zz = .pointer (some ⟨g12, 4, none⟩), Rw (140) (qq.v), fun zz _ => zz = .pointer (some ⟨g10, 4, none⟩), Rw (140) (q.v), fun zz _ => zz = .int .i64 (rcq (qq.v) (q.v)), fun zz _ => zz = .bool true, fun zz _ => zz = .bool true, fun zz _ => zz = .bool true, fun zz _ => zz = .bool true, fun zz _ => zz = .bool true, fun zz _ => zz = .bool true, fun zz _ => zz = .bool true] (by kernel_rfl) ⟨rfl, rfl, trivial⟩ ?_ ?_ ?_
      · exact ⟨fun _ _ _ h _ => h, fun _ _ _ h _ => h, fun _ _ _ h _ => h, fun _ _ _ h _ => h, fun _ _ _ h _ => h, fun _ _ _ h _ => h, fun _ _ _ h _ => h, fun _ _ _ h _ => h, fun _ _ _ h _ => h, fun _ _ _ h hb => h.new hb, fun _ _ _ h _ => h, fun _ _ _ h hb => h.new hb, fun _ _ _ h _ => h, fun _ _ _ h _ => h, fun _ _ _ h _ => h, fun _ _ _ h _ => h, fun _ _ _ h _ => h, fun _ _ _ h _ => h, fun _ _ _ h _ => h, fun _ _ _ h _ => h, trivial⟩
      · refine ⟨?_, ?_, ?_, ?_, ?_, ?_, ?_, ?_, ?_, ?_, ?_, ?_, ?_, ?_, ?_, ?_, ?_, ?_, ?_, ?_, trivial⟩
        · exact fun aa ww hb he hd => ob_plain rfl (fld_sol rfl (by decide) he.1)
        · exact fun aa ww hb he hd => ob_plain rfl (load_c3 rfl hd.1 (Blk.at0 HW.out hb))
        · exact fun aa ww hb he hd => ob_plain rfl (gives_eq_int ((qq.out : Int)) 1 .i64 _ _ _ _ rfl hd.1 rfl ⟨congrArg Value.bool (by rw [HO2.out]; rfl), Below.refl _ _⟩)
        · exact fun aa ww hb he hd => ob_plain rfl (gives_move _ rfl ⟨hd.1, Below.refl _ _⟩)
        · exact fun aa ww hb he hd => ob_on 86 rfl (by kernel_rfl) hd.1 (fld_sol rfl (by decide) he.1)
        · exact fun aa ww hb he hd => ob_on 86 rfl (by kernel_rfl) hd.1 (load_c3 rfl hd.2.1 (Blk.at0 HW.out hb))
        · exact fun aa ww hb he hd => ob_on 86 rfl (by kernel_rfl) hd.1 (gives_eq_int ((qq.out : Int)) 0 .i64 _ _ _ _ rfl hd.2.1 rfl ⟨congrArg Value.bool (by rw [HO2.out]; rfl), Below.refl _ _⟩)
        · exact fun aa ww hb he hd => ob_on 86 rfl (by kernel_rfl) hd.1 (gives_move _ rfl ⟨hd.2.1, Below.refl _ _⟩)
        · exact fun aa ww hb he hd => ob_on 90 rfl (by kernel_rfl) hd.1 (fld_sol rfl (by decide) he.1)
        · exact fun aa ww hb he hd => ob_on 90 rfl (by kernel_rfl) hd.1 (load_sv rfl hd.2.1 (Blk.keep HW.out hb) (Rw.new HVq.out hb))
        · exact fun aa ww hb he hd => ob_on 90 rfl (by kernel_rfl) hd.1 (fld_sol rfl (by decide) he.2.1)
        · exact fun aa ww hb he hd => ob_on 90 rfl (by kernel_rfl) hd.1 (load_sv rfl hd.2.1 (Blk.keep HZ.out hb) (Rw.new HV.out hb))
        · exact fun aa ww hb he hd => ob_on 90 rfl (by kernel_rfl) hd.1 (gives_call2 _ _ _ _ rfl (by kernel_rfl) (cmp_v (hd.2.1) (hd.2.2.1) (by omega)))
        · exact fun aa ww hb he hd => ob_on 90 rfl (by kernel_rfl) hd.1 (gives_le_int (rcq (qq.v) (q.v)) 0 .i64 _ _ _ _ rfl hd.2.1 rfl ⟨congrArg Value.bool (rcq_led HV2.out), Below.refl _ _⟩)
        · exact fun aa ww hb he hd => ob_on 86 rfl (by kernel_rfl) hd.1 (gives_pick true _ _ _ rfl hd.2.1 ⟨hd.2.2.1, Below.refl _ _⟩)
        · exact fun aa ww hb he hd => ob_plain rfl (gives_pick false _ _ _ rfl hd.1 ⟨hd.2.1, Below.refl _ _⟩)
        · exact fun aa ww hb he hd => ob_plain rfl (gives_move _ rfl ⟨hd.1, Below.refl _ _⟩)
        · exact fun aa ww hb he hd => ob_on 99 rfl (by kernel_rfl) hd.1 (gives_call0 _ _ rfl (by kernel_rfl) (rv_one (awake_any _)))
        · exact fun aa ww hb he hd => ob_plain rfl (gives_pick true _ _ _ rfl hd.1 ⟨hd.2.1, Below.refl _ _⟩)
        · exact fun aa ww hb he hd => ob_plain rfl (gives_assign _ rfl ⟨hd.1, Below.refl _ _⟩)
      intro vs w17 hb hR
      have e6 : vs 19 = .bool true := hR 19 (by decide)
      clear hR
      simp only [putsL, Nat.zero_add, Nat.reduceAdd, List.take_succ_cons, List.take_zero, Act.put, List.setIfInBounds_toArray, List.set_cons_zero, List.set_cons_succ]
      rw [e6]
      clear e6
      go_wp2_with fail
      go_ret
      exact ⟨rfl, bthen HB.out hb HB.out.size⟩
  · have HO := Lib.hid ho
    have z0 : w16.cell? ⟨g10, 0, none⟩ = some (.int .i64 1) := by have hh := Blk.at0 HZ.out (Below.refl _ _); rw [ho] at hh; exact hh
    have h := hc.1 ho
    have x0 : w16.cell? ⟨g12, 0, none⟩ = some (.int .i64 1) := by have hh := Blk.at0 HW.out (Below.refl _ _); rw [h] at hh; exact hh
    clear hc ho h HO
    go_wp2_with fail
    refine (awake_any _).mono ?_
    rintro e w17 ⟨rfl, hb⟩
    go_wp2_with fail
    go_ret
    exact ⟨rfl, bthen HB.out hb HB.out.size⟩
  · have HO := Lib.hid ho
    have z0 : w16.cell? ⟨g10, 0, none⟩ = some (.int .i64 2) := by have hh := Blk.at0 HZ.out (Below.refl _ _); rw [ho] at hh; exact hh
    clear hc ho HO
    go_wp2_with fail
    refine (awake_any _).mono ?_
    rintro e w17 ⟨rfl, hb⟩
    go_wp2_with fail
    go_ret
    exact ⟨rfl, bthen HB.out hb HB.out.size⟩
end Go.Proofs.Ytamcibmjpmibdaa
