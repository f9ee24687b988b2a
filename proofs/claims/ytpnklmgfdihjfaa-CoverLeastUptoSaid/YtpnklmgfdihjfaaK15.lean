/-
Contract of cover.denominator. Printed by gen/scv.py.
Contract of cover.product. Printed by gen/scv.py.
Contract of cover.checkSizes. Printed by gen/scv.py.
Contract of cover.bit.
Contract of cover.newton.
Contracts of cover.Bound and Within. Printed by gen/scv.py.
law29.awake. Printed by gen/scv.py.
The walk of CoverSubsets. Printed by gen/scv.py.
Contract of cover.Check. Printed by gen/scv.py.
The walk of CoverFinds. Printed by gen/scv.py.
-/
import Derived.Test.YtpnklmgfdihjfaaK14
import Derived.Test.YtpnklmgfdihjfaaK13
namespace Go.Proofs.Ytpnklmgfdihjfaa
open Go.RowKit
set_option linter.unusedVariables false
set_option linter.unusedSimpArgs false

set_option maxRecDepth 100000 in
set_option maxHeartbeats 8000000 in
theorem denom1_any (i g b a D : Nat) (x : Rat) (AD : Option Addr) (nD cD : Nat) (v : Value) (w : World) (hD : Blk w g 29 #[.slice AD nD cD]) (hN : Num w AD nD cD a D) (hv : Rw b x v w) (hD0 : D ≠ 0) (hab : 1 ≤ a ∧ a + b ≤ 4900) :
    Calls Try.prog 76 (#[.int .i64 (i : Int), v] ++ #[.pointer (some ⟨g, 0, none⟩)]) w (fun e w' => e = .returned (.tuple #[]) ∧ (∃ (A' : Option Addr) (n' c' : Nat), Blk w' g 29 #[.slice A' n' c'] ∧ Num w' A' n' c' (a + b) (Nat.lcm D x.den)) ∧ w.grownBy w' (some g) ∧ KeepsN w w') := by
  have HD := Lib.hid hD; have HN := Lib.hid hN; have HV := Lib.hid hv; clear hD hN
  have hfd := fldR2
  obtain ⟨s0, A0, k0, c0, B0, m0, d0, rfl, -⟩ := hv
  show Calls Try.prog 76 #[.int .i64 (i : Int), .agg #[.bool s0, .slice A0 k0 c0, .slice B0 m0 d0], .pointer (some ⟨g, 0, none⟩)] w _
  have HGl := Lib.hid HD.out.lt
  go_enter Try.func76, Try.ntmps76
  go_upto_region 1 with (fail)
  have hbw := al w (.cells #[.bool s0, .slice A0 k0 c0, .slice B0 m0 d0] 31)
  have HY := Lib.hid (Blk.new w 31 #[.bool s0, .slice A0 k0 c0, .slice B0 m0 d0])
  have HB := Lib.hid hbw
  replace HD := Lib.hid (HD.out.keep hbw)
  replace HN := Lib.hid (HN.out.new hbw)
  replace HV := Lib.hid (HV.out.new hbw)
  clear hbw
  generalize w.alloc (.cells #[.bool s0, .slice A0 k0 c0, .slice B0 m0 d0] 31) = w1 at *
  obtain ⟨g6, hg6⟩ : ∃ g6, g6 = w.heap.size := ⟨_, rfl⟩
  rw [← hg6] at HY ⊢
  have HGg6 := Lib.hid (show w.heap.size ≤ g6 from by omega)
  clear hg6
  have x0 := Blk.at0 HY.out (Below.refl _ _); have x1 := Blk.at1 HY.out (Below.refl _ _); have x2 := Blk.at2 HY.out (Below.refl _ _)
  go_wp2_with fail
  refine (norm_v HV.out (by omega)).mono ?_
  rintro e w2 ⟨v, rfl, ⟨s1, A1, k1, c1, B1, m1, d1, rfl, hr1⟩, hb⟩
  have HDn := Lib.hid hr1.2.2.1
  clear hr1 x0 x1 x2
  replace HD := Lib.hid (HD.out.keep hb)
  replace HN := Lib.hid (HN.out.new hb)
  replace HV := Lib.hid (HV.out.new hb)
  replace HB := Lib.hid (bthen HB.out hb HB.out.size)
  replace HY := Lib.hid (HY.out.keep hb)
  clear hb
  go_upto_region 2 with (fail)
  clear hfd
  refine wp_region_each (kss := [[], [], [], [(1, 14), (2, 15)], [(0, 13), (3, 16)], [(4, 17)], [(5, 12)], [(5, 12)], [(5, 12)], [(6, 18)], [(7, 19)], [(8, 20)]]) [(2, .pointer (some ⟨g, 0, none⟩)), (5, .slice B1 m1 d1)] [Nv (a) (D), Nv (a) (D), Nv (b) (x.den), Nv (a + b) (Nat.gcd D (x.den)), DmV (a) (D / (Nat.gcd D (x.den))), DmV (a) (D / (Nat.gcd D (x.den))), Nv (a) (D / (Nat.gcd D (x.den))), fun _ _ => True, fun _ _ => True, Nv (a) (D / (Nat.gcd D (x.den))), fun _ _ => True, fun _ _ => True] (by kernel_rfl) (by kernel_rfl) ⟨rfl, rfl, trivial⟩ ?_ ?_ ?_
  · exact ⟨fun _ _ _ h hb => Nv.new h hb, fun _ _ _ h hb => Nv.new h hb, fun _ _ _ h hb => Nv.new h hb, fun _ _ _ h hb => Nv.new h hb, fun _ _ _ h hb => DmV.new h hb, fun _ _ _ h hb => DmV.new h hb, fun _ _ _ h hb => Nv.new h hb, fun _ _ _ _ _ => trivial, fun _ _ _ _ _ => trivial, fun _ _ _ h hb => Nv.new h hb, fun _ _ _ _ _ => trivial, fun _ _ _ _ _ => trivial, trivial⟩
  · refine ⟨?_, ?_, ?_, ?_, ?_, ?_, ?_, ?_, ?_, ?_, ?_, ?_, trivial⟩
    · exact fun aa ww hb he hd => ob_plain rfl (load_nv rfl he.1 (Blk.keep HD.out hb) (Num.new HN.out hb))
    · exact fun aa ww hb he hd => ob_plain rfl (load_nv rfl he.1 (Blk.keep HD.out hb) (Num.new HN.out hb))
    · exact fun aa ww hb he hd => ob_plain rfl (gives_move _ rfl ⟨⟨_, _, _, he.2.1, HDn.out.new hb⟩, Below.refl _ _⟩)
    · exact fun aa ww hb he hd => ob_plain rfl (gives_call2 _ _ _ _ rfl (by kernel_rfl) (gcd_nv hd.1 hd.2.1 (by omega)))
    · exact fun aa ww hb he hd => ob_plain rfl (gives_call2 _ _ _ _ rfl (by kernel_rfl) (quo_nv hd.1 hd.2.1 (fun h => hD0 (Nat.gcd_eq_zero_iff.1 h).1) (by omega) (by omega)))
    · exact fun _ _ _ he hd => ob_mv rfl rfl hd.1
    · exact fun aa ww hb he hd => ob_plain rfl (ext_dm rfl hd.1)
    · exact fun aa ww hb he hd => ob_plain rfl (ext_dm1 rfl hd.1)
    · exact fun aa ww hb he hd => ob_plain rfl (ext_dm2 rfl hd.1)
    · exact fun aa ww hb he hd => ob_plain rfl (gives_assign _ rfl ⟨hd.1, Below.refl _ _⟩)
    · exact fun aa ww hb he hd => ob_plain rfl (gives_assign _ rfl ⟨hd.1, Below.refl _ _⟩)
    · exact fun aa ww hb he hd => ob_plain rfl (gives_assign _ rfl ⟨hd.1, Below.refl _ _⟩)
  intro vs w3 hb hR
  have r6 : Nv (a) (D / (Nat.gcd D (x.den))) (vs 9) w3 := hR 9 (by decide)
  clear hR
  simp only [putsL, Nat.zero_add, Nat.reduceAdd, List.take_succ_cons, List.take_zero, Act.put, List.setIfInBounds_toArray, List.set_cons_zero, List.set_cons_succ]
  obtain ⟨A2, k2, c2, e6, hq⟩ := r6
  rw [e6]
  clear e6
  have HQ := Lib.hid hq; clear hq
  replace HD := Lib.hid (HD.out.keep hb)
  replace HN := Lib.hid (HN.out.new hb)
  replace HV := Lib.hid (HV.out.new hb)
  replace HB := Lib.hid (bthen HB.out hb HB.out.size)
  replace HY := Lib.hid (HY.out.keep hb)
  replace HDn := Lib.hid (HDn.out.new hb)
  clear hb
  have x0 := Blk.at0 HD.out (Below.refl _ _)
  go_wp2_with fail
  refine (mul_n HQ.out HDn.out (by omega)).mono ?_
  rintro e w4 ⟨A3, k3, c3, rfl, h3, -, hb⟩
  rw [lcm_div] at h3
  have HR := Lib.hid h3; clear h3 x0
  replace HD := Lib.hid (HD.out.keep hb)
  replace HN := Lib.hid (HN.out.new hb)
  replace HV := Lib.hid (HV.out.new hb)
  replace HB := Lib.hid (bthen HB.out hb HB.out.size)
  replace HY := Lib.hid (HY.out.keep hb)
  replace HDn := Lib.hid (HDn.out.new hb)
  clear hb
  have c0 := Blk.at0 HD.out (Below.refl _ _)
  have f0 := HD.out.frozen 0
  have kn := KeepsN.blk HD.out (i := 0) (by show 0 < 1; omega) (by intro x; simp) (.slice A3 k3 c3)
  go_wp2_with fail
  refine bodyPost_end (results_none rfl _ _ _) rfl ⟨rfl, ⟨A3, k3, c3, HD.out.set_ 0 _, (HR.out.up (Nat.lt_of_le_of_lt (lcm_le _ _) (PB_mul HN.out.2.2.2.1 HDn.out.2.2.2.1)) (by omega)).keepN kn⟩, only_setCell (only_of_below HB.out _) (.inl rfl) _, (KeepsN.below HB.out).trans kn⟩
/-- The state of denominator's visit. -/
structure DenJ (X : Nat → Rat) (b : Nat) (A : Option Addr) (n g : Nat) (w0 : World) (i : Nat) (w : World) : Prop where
  a : Rs w w0.heap.size A n (PW w b X)
  d : ∃ (A' : Option Addr) (n' c' : Nat), Blk w g 29 #[.slice A' n' c'] ∧ Num w A' n' c' 2 (dlcm X i)
  hb : Below w0.heap.size w0 w
theorem DenJ.below {X : Nat → Rat} {b n g i : Nat} {A : Option Addr} {w0 w w' : World} (h : DenJ X b A n g w0 i w) (hb : Below w.heap.size w w') : DenJ X b A n g w0 i w' := by
  obtain ⟨A', n', c', h1, h2⟩ := h.d
  exact ⟨Rs.grownB h.a (only_of_below hb none) h.hb.size (fun _ e => by cases e) (KeepsN.below hb), ⟨A', n', c', h1.keep hb, h2.new hb⟩, bthen h.hb hb h.hb.size⟩
set_option maxRecDepth 100000 in
set_option maxHeartbeats 8000000 in
theorem denom_any (n c b : Nat) (A : Option Addr) (X : Nat → Rat) (w : World) (hA : Rs w w.heap.size A n (PW w b X)) (hn : n ≤ 1000) (hb : 2 + b ≤ 4900) (hD : dlcm X n < PB 2) : Calls Try.prog 42 #[.slice A n c] w (RetN1 w 2 (dlcm X n)) := by
  have HA0 := Lib.hid hA; clear hA
  have hK2 : Enters 76 := enters (by kernel_rfl)
  go_enter Try.func42, Try.ntmps42
  go_upto_region 1 with (fail)
  go_wp2_with fail
  refine (of_n 1 (by omega) _).mono ?_
  rintro e w1 ⟨A1, n1, c1, rfl, h1, -, hb⟩
  have HN := Lib.hid h1; clear h1
  have HB := Lib.hid hb; have HS1 := Lib.hid hb.size; clear hb
  go_upto_region 2 with (fail)
  have hbw := al w1 (.cells #[.slice A1 n1 c1] 29)
  have HD := Lib.hid (Blk.new w1 29 #[.slice A1 n1 c1])
  replace HN := Lib.hid (HN.out.new hbw)
  replace HB := Lib.hid (bthen HB.out hbw HB.out.size)
  clear hbw
  generalize w1.alloc (.cells #[.slice A1 n1 c1] 29) = w2 at *
  obtain ⟨g3, hg3⟩ : ∃ g3, g3 = w1.heap.size := ⟨_, rfl⟩
  rw [← hg3] at HD ⊢
  have HGg3 := Lib.hid (show w1.heap.size ≤ g3 from by omega)
  clear hg3
  have HGl := Lib.hid (show w.heap.size ≤ g3 from by have := HS1.out; have := HGg3.out; omega)
  go_wp2_with fail
  refine (visit_any 76 hK2 #[.pointer (some ⟨g3, 0, none⟩)] n c b A X (DenJ X b A n g3 w) (fun i w' h => Rs.moreB h.a h.hb.size) (fun i w' w'' h hb => h.below hb) (fun i w' v hi h hv => ?_) (by omega) w2 ⟨Rs.grownB HA0.out (only_of_below HB.out none) (Nat.le_refl _) (fun _ e => by cases e) (KeepsN.below HB.out), ⟨A1, n1, c1, HD.out, HN.out⟩, HB.out⟩).mono ?_
  · obtain ⟨A3, n3, c3, h3, h4⟩ := h.d
    refine (denom1_any i g3 b 2 _ (X i) A3 n3 c3 v w' h3 h4 hv (dlcm_ne X i) ⟨by omega, hb⟩).mono ?_
    rintro e w3 ⟨rfl, ⟨A14, n4, c4, h5, h6⟩, hg, kp⟩
    exact ⟨rfl, Rs.grownB h.a hg h.hb.size (fun k e => by cases e; exact HGl.out) kp, ⟨A14, n4, c4, h5, h6.up (Nat.lt_of_le_of_lt (show dlcm X (i + 1) ≤ dlcm X n from dlcm_le (by omega)) hD) (by omega)⟩, h.hb.grown hg h.hb.size (fun k e => by cases e; exact HGl.out)⟩
  rintro e w4 ⟨rfl, hj⟩
  have HJ := Lib.hid hj; clear hj
  obtain ⟨A5, n5, c5, h5, h6⟩ := HJ.out.d
  have x0 := Blk.at0 h5 (Below.refl _ _)
  have HN5 := Lib.hid h6; clear h5 h6
  go_wp2_with fail
  go_ret
  exact ⟨_, _, _, rfl, HN5.out, HJ.out.hb⟩
end Go.Proofs.Ytpnklmgfdihjfaa
namespace Go.Proofs.Ytpnklmgfdihjfaa
open Go.RowKit
set_option linter.unusedVariables false
set_option linter.unusedSimpArgs false

theorem pb_le {b e : Nat} (h : 32 * b ≤ e) : PB b ≤ 2 ^ e := by
  unfold PB
  rw [show (4294967296 : Nat) = 2 ^ 32 from rfl, ← Nat.pow_mul]
  exact Nat.pow_le_pow_right (by decide) h
theorem big60 : PB 60 ≤ bigP := by
  rw [bigP]
  exact pb_le (by rw [bigE_eq]; decide)
set_option maxRecDepth 100000 in
set_option maxHeartbeats 8000000 in
theorem prod1_any (i b r D P l cx gE gd gs gr : Nat) (x : Rat) (xs : List Int) (AX AD AR : Option Addr) (nD cD nR cR : Nat) (v : Value) (w : World) (hE : Blk w gE 34 #[.int .i64 0]) (hD : Blk w gd 29 #[.slice AD nD cD]) (hDN : Num w AD nD cD 2 D)
    (hS : Blk w gs 45 #[.slice AX l cx]) (hX : Xs w w.heap.size AX l xs) (hR : Blk w gr 29 #[.slice AR nR cR]) (hRN : Num w AR nR cR r P) (hv : Rw b x v w) (hi : i < l) (hxi : 0 ≤ inth xs i ∧ inth xs i ≤ 1000000) (hM : expW x D ≤ 1000) (hf : (inth xs i).toNat ^ expW x D < PB 60) (hab : 1 ≤ r ∧ r + 60 ≤ 10000 ∧ b + 2 ≤ 4900) :
    Calls Try.prog 79 (#[.int .i64 (i : Int), v] ++ #[.pointer (some ⟨gE, 0, none⟩), .pointer (some ⟨gd, 0, none⟩), .pointer (some ⟨gs, 0, none⟩), .pointer (some ⟨gr, 0, none⟩)]) w (fun e w' => e = .returned (.tuple #[]) ∧ (∃ (A' : Option Addr) (n' c' : Nat), Blk w' gr 29 #[.slice A' n' c'] ∧ Num w' A' n' c' (r + 60) (P * (inth xs i).toNat ^ expW x D)) ∧ w.grownBy w' (some gr) ∧ KeepsN w w') := by
  have HE := Lib.hid hE; have HD := Lib.hid hD; have HDN := Lib.hid hDN; have HS := Lib.hid hS; have HX := Lib.hid hX; have HR := Lib.hid hR; have HRN := Lib.hid hRN; have HV := Lib.hid hv
  have HM := Lib.hid hM; have HF := Lib.hid hf
  clear hE hD hDN hS hX hR hRN hM hf
  obtain ⟨s0, A0, k0, c0, B0, m0, d0, rfl, -⟩ := hv
  show Calls Try.prog 79 #[.int .i64 (i : Int), .agg #[.bool s0, .slice A0 k0 c0, .slice B0 m0 d0], .pointer (some ⟨gE, 0, none⟩), .pointer (some ⟨gd, 0, none⟩), .pointer (some ⟨gs, 0, none⟩), .pointer (some ⟨gr, 0, none⟩)] w _
  have HGl := Lib.hid (show gE < w.heap.size ∧ gd < w.heap.size ∧ gs < w.heap.size ∧ gr < w.heap.size from ⟨HE.out.lt, HD.out.lt, HS.out.lt, HR.out.lt⟩)
  go_enter Try.func79, Try.ntmps79
  go_upto_region 1 with (fail)
  have hbw := al w (.cells #[.bool s0, .slice A0 k0 c0, .slice B0 m0 d0] 31)
  have HY := Lib.hid (Blk.new w 31 #[.bool s0, .slice A0 k0 c0, .slice B0 m0 d0])
  have HB := Lib.hid hbw
  replace HE := Lib.hid (HE.out.keep hbw)
  replace HD := Lib.hid (HD.out.keep hbw)
  replace HDN := Lib.hid (HDN.out.new hbw)
  replace HS := Lib.hid (HS.out.keep hbw)
  replace HX := Lib.hid ((HX.out.below hbw).more (Below.size hbw))
  replace HR := Lib.hid (HR.out.keep hbw)
  replace HRN := Lib.hid (HRN.out.new hbw)
  replace HV := Lib.hid (HV.out.new hbw)
  clear hbw
  generalize w.alloc (.cells #[.bool s0, .slice A0 k0 c0, .slice B0 m0 d0] 31) = w1 at *
  obtain ⟨g6, hg6⟩ : ∃ g6, g6 = w.heap.size := ⟨_, rfl⟩
  rw [← hg6] at HY ⊢
  have HGg6 := Lib.hid (show w.heap.size ≤ g6 from by omega)
  clear hg6
  have x0 := Blk.at0 HE.out (Below.refl _ _)
  have HYb := Lib.hid (show Bx b x g6 w1 from by obtain ⟨s1, A1, n1, c1, B1, m1, d1, e, h⟩ := HV.out; cases e; exact ⟨_, _, _, _, _, _, _, HY.out, h⟩)
  go_upto_region 2 with (fail)
  clear x0
  refine wp_region_each (kss := [[], [], [(1, 14)], [(0, 13), (2, 15)], [(3, 16)], [(4, 17)], [(5, 18)]]) [(7, .pointer (some ⟨g6, 0, none⟩)), (3, .pointer (some ⟨gd, 0, none⟩))] [Rw (b) (x), Nv (2) (D), Rv (2) (((D : Nat) : Rat)), Rv (b + 2) (x * (((D : Nat) : Rat))), Rv ((b + 2)) ((x * (((D : Nat) : Rat)))), Nv ((b + 2)) (((x * (((D : Nat) : Rat)))).num.natAbs), Nv ((b + 2)) (((x * (((D : Nat) : Rat)))).num.natAbs)] (by kernel_rfl) (by kernel_rfl) ⟨rfl, rfl, trivial⟩ ?_ ?_ ?_
  · exact ⟨fun _ _ _ h hb => h.new hb, fun _ _ _ h hb => Nv.new h hb, fun _ _ _ h hb => h.new hb, fun _ _ _ h hb => h.new hb, fun _ _ _ h hb => h.new hb, fun _ _ _ h hb => Nv.new h hb, fun _ _ _ h hb => Nv.new h hb, trivial⟩
  · refine ⟨?_, ?_, ?_, ?_, ?_, ?_, ?_, trivial⟩
    · exact fun aa ww hb he hd => ob_plain rfl (load_bx rfl he.1 (Bx.new HYb.out hb))
    · exact fun aa ww hb he hd => ob_plain rfl (load_nv rfl he.2.1 (Blk.keep HD.out hb) (Num.new HDN.out hb))
    · exact fun aa ww hb he hd => ob_plain rfl (gives_call1 _ _ _ rfl (by kernel_rfl) (fromnat_v hd.1 (by omega)))
    · exact fun aa ww hb he hd => ob_plain rfl (gives_call2 _ _ _ _ rfl (by kernel_rfl) (mul_v (hd.1) (hd.2.1.rw) (by omega)))
    · exact fun aa ww hb he hd => ob_plain rfl (gives_call1 _ _ _ rfl (by kernel_rfl) (norm_v (hd.1.rw) (by omega)))
    · exact fun aa ww hb he hd => ob_plain rfl (fld_num rfl hd.1)
    · exact fun aa ww hb he hd => ob_plain rfl (gives_assign _ rfl ⟨hd.1, Below.refl _ _⟩)
  intro vs w2 hb hR
  have r8 : Nv ((b + 2)) (((x * (((D : Nat) : Rat)))).num.natAbs) (vs 6) w2 := hR 6 (by decide)
  clear hR
  simp only [putsL, Nat.zero_add, Nat.reduceAdd, List.take_succ_cons, List.take_zero, Act.put, List.setIfInBounds_toArray, List.set_cons_zero, List.set_cons_succ]
  obtain ⟨A2, k2, c2, e8, hq⟩ := r8
  rw [e8]
  clear e8
  have HQ := Lib.hid (show Num w2 A2 k2 c2 (b + 2) (expW x D) from hq); clear hq
  replace HE := Lib.hid (HE.out.keep hb)
  replace HD := Lib.hid (HD.out.keep hb)
  replace HDN := Lib.hid (HDN.out.new hb)
  replace HS := Lib.hid (HS.out.keep hb)
  replace HX := Lib.hid ((HX.out.below hb).more (Below.size hb))
  replace HR := Lib.hid (HR.out.keep hb)
  replace HRN := Lib.hid (HRN.out.new hb)
  replace HV := Lib.hid (HV.out.new hb)
  replace HB := Lib.hid (bthen HB.out hb HB.out.size)
  replace HY := Lib.hid (HY.out.keep hb)
  replace HYb := Lib.hid (HYb.out.new hb)
  clear hb
  obtain ⟨z, hz⟩ : ∃ z : Nat, z = (inth xs i).toNat := ⟨_, rfl⟩
  have hzi : inth xs i = (z : Int) := by omega
  rw [← hz] at HF
  have HZt := Lib.hid hz
  obtain ⟨adX, rfl, -, hcX⟩ := HX.out.at_ hi
  rw [hzi] at hcX
  have hz6 : z ≤ 1000000 := by omega
  clear hxi
  clear hz
  have HZ := Lib.hid hzi; clear hzi
  have e1 : IntKind.u64.wrap (z : Int) = (z : Int) := IntWalk.u64_in _ (by omega)
  have x4 := Blk.at0 HS.out (Below.refl _ _)
  have i0 := hi
  go_wp2_with fail
  refine (of_n z (by omega) _).mono ?_
  rintro e w3 ⟨A3, n3, c3, rfl, h3, -, hb⟩
  clear hcX x4 e1
  have HT := Lib.hid h3; clear h3
  replace HE := Lib.hid (HE.out.keep hb)
  replace HD := Lib.hid (HD.out.keep hb)
  replace HDN := Lib.hid (HDN.out.new hb)
  replace HS := Lib.hid (HS.out.keep hb)
  replace HX := Lib.hid ((HX.out.below hb).more (Below.size hb))
  replace HR := Lib.hid (HR.out.keep hb)
  replace HRN := Lib.hid (HRN.out.new hb)
  replace HV := Lib.hid (HV.out.new hb)
  replace HB := Lib.hid (bthen HB.out hb HB.out.size)
  replace HY := Lib.hid (HY.out.keep hb)
  replace HYb := Lib.hid (HYb.out.new hb)
  replace HQ := Lib.hid (HQ.out.new hb)
  clear hb
  go_wp2_with fail
  refine (pow_nv ⟨_, _, _, rfl, HT.out⟩ ⟨_, _, _, rfl, HQ.out⟩ (by have := HM.out; omega) (Nat.lt_of_lt_of_le HF.out big60)).mono ?_
  rintro e w4 ⟨v4, rfl, ⟨A14, n4, c4, rfl, h4⟩, hb⟩
  have HP := Lib.hid (h4.up HF.out (by omega)); clear h4
  replace HE := Lib.hid (HE.out.keep hb)
  replace HD := Lib.hid (HD.out.keep hb)
  replace HDN := Lib.hid (HDN.out.new hb)
  replace HS := Lib.hid (HS.out.keep hb)
  replace HX := Lib.hid ((HX.out.below hb).more (Below.size hb))
  replace HR := Lib.hid (HR.out.keep hb)
  replace HRN := Lib.hid (HRN.out.new hb)
  replace HV := Lib.hid (HV.out.new hb)
  replace HB := Lib.hid (bthen HB.out hb HB.out.size)
  replace HY := Lib.hid (HY.out.keep hb)
  replace HYb := Lib.hid (HYb.out.new hb)
  replace HQ := Lib.hid (HQ.out.new hb)
  replace HT := Lib.hid (HT.out.new hb)
  clear hb
  have x5 := Blk.at0 HR.out (Below.refl _ _)
  go_wp2_with fail
  refine (mul_n HRN.out HP.out (by omega)).mono ?_
  rintro e w5 ⟨A5, n5, c5, rfl, h5, -, hb⟩
  clear x5
  have HN := Lib.hid h5; clear h5
  replace HE := Lib.hid (HE.out.keep hb)
  replace HD := Lib.hid (HD.out.keep hb)
  replace HDN := Lib.hid (HDN.out.new hb)
  replace HS := Lib.hid (HS.out.keep hb)
  replace HX := Lib.hid ((HX.out.below hb).more (Below.size hb))
  replace HR := Lib.hid (HR.out.keep hb)
  replace HRN := Lib.hid (HRN.out.new hb)
  replace HV := Lib.hid (HV.out.new hb)
  replace HB := Lib.hid (bthen HB.out hb HB.out.size)
  replace HY := Lib.hid (HY.out.keep hb)
  replace HYb := Lib.hid (HYb.out.new hb)
  replace HQ := Lib.hid (HQ.out.new hb)
  replace HT := Lib.hid (HT.out.new hb)
  replace HP := Lib.hid (HP.out.new hb)
  clear hb
  have y0 := Blk.at0 HR.out (Below.refl _ _)
  have f0 := HR.out.frozen 0
  have kn := KeepsN.blk HR.out (i := 0) (by show 0 < 1; omega) (by intro x; simp) (.slice A5 n5 c5)
  go_wp2_with fail
  refine bodyPost_end (results_none rfl _ _ _) rfl ⟨rfl, ⟨A5, n5, c5, HR.out.set_ 0 _, by rw [← HZt.out]; exact HN.out.keepN kn⟩, only_setCell (only_of_below HB.out _) (.inl rfl) _, (KeepsN.below HB.out).trans kn⟩
/-- The state of product's visit. -/
structure PrdJ (X : Nat → Rat) (b : Nat) (A : Option Addr) (n D l cx gE gd gs gr : Nat) (AX : Option Addr) (xs : List Int) (w0 : World) (i : Nat) (w : World) : Prop where
  a : Rs w w0.heap.size A n (PW w b X)
  e : Blk w gE 34 #[.int .i64 0]
  d : ∃ (A' : Option Addr) (n' c' : Nat), Blk w gd 29 #[.slice A' n' c'] ∧ Num w A' n' c' 2 D
  s : Blk w gs 45 #[.slice AX l cx]
  x : Xs w w0.heap.size AX l xs
  r : ∃ (A' : Option Addr) (n' c' : Nat), Blk w gr 29 #[.slice A' n' c'] ∧ Num w A' n' c' (2 + 60 * i) (prodP xs X D i)
  hb : Below w0.heap.size w0 w
section
variable {X : Nat → Rat} {b n D l cx gE gd gs gr i : Nat} {A AX : Option Addr} {xs : List Int} {w0 w w' : World}
theorem PrdJ.below (h : PrdJ X b A n D l cx gE gd gs gr AX xs w0 i w) (hb : Below w.heap.size w w') : PrdJ X b A n D l cx gE gd gs gr AX xs w0 i w' := by
  obtain ⟨A', n', c', h1, h2⟩ := h.d
  obtain ⟨A2, n2, c2, h3, h4⟩ := h.r
  exact ⟨Rs.grownB h.a (only_of_below hb none) h.hb.size (fun _ e => by cases e) (KeepsN.below hb), h.e.keep hb, ⟨A', n', c', h1.keep hb, h2.new hb⟩, h.s.keep hb, h.x.grownX (only_of_below hb none) h.hb.size (fun _ e => by cases e), ⟨A2, n2, c2, h3.keep hb, h4.new hb⟩, bthen h.hb hb h.hb.size⟩
theorem PrdJ.next (h : PrdJ X b A n D l cx gE gd gs gr AX xs w0 i w) (hN : gd ≠ gr ∧ w0.heap.size ≤ gr) (hx : ∃ (A' : Option Addr) (n' c' : Nat), Blk w' gr 29 #[.slice A' n' c'] ∧ Num w' A' n' c' (2 + 60 * i + 60) (prodP xs X D i * (inth xs i).toNat ^ expW (X i) D)) (hg : w.grownBy w' (some gr)) (kp : KeepsN w w') : PrdJ X b A n D l cx gE gd gs gr AX xs w0 (i + 1) w' := by
  obtain ⟨A', n', c', h1, h2⟩ := h.d
  obtain ⟨A2, n2, c2, h3, h4⟩ := h.r
  have lt : ∀ k, some gr = some k → w0.heap.size ≤ k := fun k e => by cases e; exact hN.2
  exact ⟨Rs.grownB h.a hg h.hb.size lt kp, h.e.grown hg (fun e => by injection e with e; exact Blk.ne_ h.e h3 (by decide) e), ⟨A', n', c', h1.grown hg (fun e => by injection e with e; exact hN.1 e), h2.keepN kp⟩, h.s.grown hg (fun e => by injection e with e; exact Blk.ne_ h.s h3 (by decide) e), h.x.grownX hg h.hb.size lt, by rw [show 2 + 60 * (i + 1) = 2 + 60 * i + 60 by omega]; exact hx, h.hb.grown hg h.hb.size lt⟩
end
set_option maxRecDepth 100000 in
set_option maxHeartbeats 8000000 in
theorem prod_any (n c b D l cx nD cD : Nat) (A AX AD : Option Addr) (X : Nat → Rat) (xs : List Int) (w : World) (hA : Rs w w.heap.size A n (PW w b X)) (hX : Xs w w.heap.size AX l xs) (hD : Num w AD nD cD 2 D) (hn : n ≤ l ∧ n ≤ 100) (hb : b + 2 ≤ 4900)
    (hC : ∀ i, i < n → (0 ≤ inth xs i ∧ inth xs i ≤ 1000000) ∧ expW (X i) D ≤ 1000 ∧ (inth xs i).toNat ^ expW (X i) D < PB 60) : Calls Try.prog 44 #[.slice A n c, .slice AX l cx, .slice AD nD cD] w (RV w (PwV (2 + 60 * n) (prodP xs X D n))) := by
  have HA0 := Lib.hid hA; have HX0 := Lib.hid hX; have HD0 := Lib.hid hD; have HC := Lib.hid hC; clear hA hX hD hC
  have hK2 : Enters 79 := enters (by kernel_rfl)
  go_enter Try.func44, Try.ntmps44
  go_upto_region 1 with (fail)
  have hbw := bthen (al w (.cells #[.slice AX l cx] 45)) (al _ (.cells #[.slice AD nD cD] 29)) (by simp)
  have HS := Lib.hid ((Blk.new w 45 #[.slice AX l cx]).keep (al _ (.cells #[.slice AD nD cD] 29)))
  have HD := Lib.hid (Blk.new (w.alloc (.cells #[.slice AX l cx] 45)) 29 #[.slice AD nD cD])
  rw [show (w.alloc (.cells #[.slice AX l cx] 45)).heap.size = w.heap.size + 1 from by simp] at HD
  have HB := Lib.hid hbw
  clear hbw
  generalize (w.alloc (.cells #[.slice AX l cx] 45)).alloc (.cells #[.slice AD nD cD] 29) = w1 at *
  obtain ⟨g4, hg4⟩ : ∃ g4, g4 = w.heap.size := ⟨_, rfl⟩
  obtain ⟨g5, hg5⟩ : ∃ g5, g5 = w.heap.size + 1 := ⟨_, rfl⟩
  rw [← hg5] at HD ⊢
  rw [← hg4] at HS ⊢
  have HGg4 := Lib.hid (show w.heap.size ≤ g4 ∧ w.heap.size ≤ g5 from by omega)
  clear hg4 hg5
  go_wp2_with fail
  refine (of_n 1 (by omega) _).mono ?_
  rintro e w2 ⟨A1, n1, c1, rfl, h1, -, hb⟩
  have HN := Lib.hid h1; clear h1
  replace HB := Lib.hid (bthen HB.out hb HB.out.size)
  replace HS := Lib.hid (HS.out.keep hb)
  replace HD := Lib.hid (HD.out.keep hb)
  clear hb
  have HL := Lib.hid (show g5 < w2.heap.size ∧ w.heap.size ≤ w2.heap.size from ⟨HD.out.lt, HB.out.size⟩)
  go_upto_region 2 with (fail)
  have hbw := bthen (al w2 (.cells #[.slice A1 n1 c1] 29)) (al _ (.cells #[.int .i64 0] 34)) (by simp)
  have HR := Lib.hid ((Blk.new w2 29 #[.slice A1 n1 c1]).keep (al _ (.cells #[.int .i64 0] 34)))
  have HE := Lib.hid (Blk.new (w2.alloc (.cells #[.slice A1 n1 c1] 29)) 34 #[.int .i64 0])
  rw [show (w2.alloc (.cells #[.slice A1 n1 c1] 29)).heap.size = w2.heap.size + 1 from by simp] at HE
  replace HB := Lib.hid (bthen HB.out hbw HB.out.size)
  replace HS := Lib.hid (HS.out.keep hbw)
  replace HD := Lib.hid (HD.out.keep hbw)
  replace HN := Lib.hid (HN.out.new hbw)
  clear hbw
  generalize (w2.alloc (.cells #[.slice A1 n1 c1] 29)).alloc (.cells #[.int .i64 0] 34) = w3 at *
  obtain ⟨g8, hg8⟩ : ∃ g8, g8 = w2.heap.size := ⟨_, rfl⟩
  obtain ⟨g9, hg9⟩ : ∃ g9, g9 = w2.heap.size + 1 := ⟨_, rfl⟩
  rw [← hg9] at HE ⊢
  rw [← hg8] at HR ⊢
  have HGg8 := Lib.hid (show w2.heap.size ≤ g8 ∧ w2.heap.size ≤ g9 from by omega)
  clear hg8 hg9
  have HNe := Lib.hid (show g5 ≠ g8 ∧ w.heap.size ≤ g8 from by have := HL.out; have := HGg8.out; omega)
  go_wp2_with fail
  refine (visit_any 79 hK2 #[.pointer (some ⟨g9, 0, none⟩), .pointer (some ⟨g5, 0, none⟩), .pointer (some ⟨g4, 0, none⟩), .pointer (some ⟨g8, 0, none⟩)] n c b A X (PrdJ X b A n D l cx g9 g5 g4 g8 AX xs w) (fun i w' h => Rs.moreB h.a h.hb.size) (fun i w' w'' h hb => h.below hb) (fun i w' v hi h hv => ?_) (by omega) w3 ⟨Rs.grownB HA0.out (only_of_below HB.out none) (Nat.le_refl _) (fun _ e => by cases e) (KeepsN.below HB.out), HE.out, ⟨_, _, _, HD.out, HD0.out.new HB.out⟩, HS.out, HX0.out.grownX (only_of_below HB.out none) (Nat.le_refl _) (fun _ e => by cases e), ⟨_, _, _, HR.out, HN.out⟩, HB.out⟩).mono ?_
  · obtain ⟨A3, n3, c3, h3, h4⟩ := h.d
    obtain ⟨A14, n4, c4, h5, h6⟩ := h.r
    obtain ⟨q1, q2, q3⟩ := HC.out i hi
    refine (prod1_any i b (2 + 60 * i) D _ l cx g9 g5 g4 g8 (X i) xs AX A3 A14 n3 c3 n4 c4 v w' h.e h3 h4 h.s (h.x.more h.hb.size) h5 h6 hv (by omega) q1 q2 q3 (by omega)).mono ?_
    rintro e w4 ⟨rfl, hx, hg, kp⟩
    exact ⟨rfl, h.next HNe.out hx hg kp⟩
  rintro e w4 ⟨rfl, hj⟩
  have HJ := Lib.hid hj; clear hj
  obtain ⟨A5, n5, c5, h5, h6⟩ := HJ.out.r
  have x0 := Blk.at0 h5 (Below.refl _ _); have x1 := Blk.at0 HJ.out.e (Below.refl _ _)
  have HN5 := Lib.hid h6; clear h5 h6
  go_wp2_with fail
  first | exact bodyPost_ret (results_tmp2 rfl _ _ _) rfl ⟨_, rfl, ⟨_, _, _, rfl, HN5.out⟩, HJ.out.hb⟩ | exact bodyPost_end (results_tmp2 rfl _ _ _) rfl ⟨_, rfl, ⟨_, _, _, rfl, HN5.out⟩, HJ.out.hb⟩
end Go.Proofs.Ytpnklmgfdihjfaa
namespace Go.Proofs.Ytpnklmgfdihjfaa
open Go.RowKit
set_option linter.unusedVariables false
set_option linter.unusedSimpArgs false

/-- The code of checkSizes. -/
def SzR (l m : Nat) (xs : List Int) (W : Nat → Rat) (z : Int) : Prop := (l ≠ m → z = 28) ∧ (l = m → (∃ j, j < m ∧ ¬ (0 ≤ inth xs j ∧ 0 ≤ W j)) → z = 19) ∧ (l = m → (∀ j, j < m → 0 ≤ inth xs j ∧ 0 ≤ W j) → z = 0)
set_option maxRecDepth 100000 in
set_option maxHeartbeats 8000000 in
theorem sizes_any (l m np cw cp cx b : Nat) (AW AP AX : Option Addr) (s0 : Bool) (A0 B0 : Option Addr) (k0 c0 m0 d0 : Nat) (W : Nat → Rat) (xs : List Int) (w : World) (hW : Rs w w.heap.size AW m (PW w b W)) (hX : Xs w w.heap.size AX l xs) (hl : l ≤ 1000) :
    Calls Try.prog 41 #[.agg #[.slice AW m cw, .slice AP np cp, .bool s0, .slice A0 k0 c0, .slice B0 m0 d0], .slice AX l cx] w (fun e w' => ∃ z : Int, e = .returned (.int .i64 z) ∧ SzR l m xs W z ∧ Below w.heap.size w w') := by
  have HW := Lib.hid hW; have HX0 := Lib.hid hX; clear hW hX
  go_enter Try.func41, Try.ntmps41
  go_upto_region 1 with (fail)
  have hbw := al w (.cells #[.slice AW m cw, .slice AP np cp, .bool s0, .slice A0 k0 c0, .slice B0 m0 d0] 33)
  have HC := Lib.hid (Blk.new w 33 #[.slice AW m cw, .slice AP np cp, .bool s0, .slice A0 k0 c0, .slice B0 m0 d0])
  have HB := Lib.hid hbw
  replace HW := Lib.hid (Rs.newW HW.out hbw)
  clear hbw
  generalize w.alloc (.cells #[.slice AW m cw, .slice AP np cp, .bool s0, .slice A0 k0 c0, .slice B0 m0 d0] 33) = w1 at *
  obtain ⟨g2, hg2⟩ : ∃ g2, g2 = w.heap.size := ⟨_, rfl⟩
  rw [← hg2] at HC ⊢
  have HGg2 := Lib.hid (show w.heap.size ≤ g2 from by omega)
  clear hg2
  have x0 := Blk.at0 HC.out (Below.refl _ _)
  by_cases hlm : l = m
  rotate_left
  · have t0 : ¬ ((l : Int) = (m : Int)) := by omega
    go_wp2_with fail
    go_ret
    exact ⟨28, rfl, ⟨fun _ => rfl, fun h => absurd h hlm, fun h => absurd h hlm⟩, HB.out⟩
  subst hlm
  go_wp2_with fail
  clear x0
  go_loopg [15] l (fun g iv wr => ∃ i : Nat, iv = .int .i64 i ∧ i + g = l ∧ Hid ((∀ j, j < i → 0 ≤ inth xs j ∧ 0 ≤ W j) ∧ Blk wr g2 33 #[.slice AW l cw, .slice AP np cp, .bool s0, .slice A0 k0 c0, .slice B0 m0 d0] ∧ Rs wr wr.heap.size AW l (PW wr b W) ∧ Below w.heap.size w wr))
  case atStart => exact ⟨0, rfl, by omega, Lib.hid ⟨fun j hj => absurd hj (by omega), HC.out, HW.out, HB.out⟩⟩
  case round =>
    obtain ⟨i, rfl, hil, HI⟩ := hrel
    clear HC HW HB
    have HOk := Lib.hid HI.out.1; have HC := Lib.hid HI.out.2.1; have HW := Lib.hid HI.out.2.2.1; have HB := Lib.hid HI.out.2.2.2
    clear HI
    by_cases hi : i < l
    · have i1 : ((i : Int) < (l : Int)) := by omega
      obtain ⟨adX, rfl, -, hcX⟩ := (HX0.out.below HB.out).at_ hi
      obtain ⟨adW, -, -, -, -, -, -, -, rfl, -⟩ := HW.out.at_ hi
      obtain ⟨xi, hxi⟩ : ∃ xi, xi = inth xs i := ⟨_, rfl⟩
      rw [← hxi] at hcX
      have HXi := Lib.hid hxi; clear hxi
      go_upto_region 6 with (fail)
      clear hcX
      by_cases hx : xi < 0
      · have HBad := Lib.hid (show ¬ (0 ≤ xi ∧ 0 ≤ W i) from fun h => by omega)
        · skip
          refine wp_region_seq (kss := [[], [(0, 20)], [(1, 21)], [(2, 22)], [(2, 22), (3, 23)], [(2, 22)], [(2, 22), (4, 24), (5, 25)], [(2, 22), (6, 26)], [(2, 22), (7, 27)], [(2, 22), (8, 28)], [(2, 22), (9, 29)]]) [(6, .int .i64 xi), (2, .pointer (some ⟨g2, 0, none⟩)), (5, .int .i64 ((i : Int)))] [EV (.int .i64 xi), EV (.bool true), EV (.bool true), EV (undef), EV (undef), EV (undef), EV (undef), EV (undef), EV (undef), EV (undef), EV (.bool true)] (by kernel_rfl) ⟨rfl, rfl, rfl, trivial⟩ ?_ ?_ ?_
          · exact ⟨eI, eI, eI, eI, eI, eI, eI, eI, eI, eI, eI, trivial⟩
          · refine ⟨?_, ?_, ?_, ?_, ?_, ?_, ?_, ?_, ?_, ?_, ?_, trivial⟩
            · exact fun _ _ _ he hd => ob_mv rfl rfl he.1
            · exact fun aa ww hb he hd => ob_plain rfl (gives_lt_int xi 0 .i64 _ _ _ _ rfl hd.1 rfl ⟨congrArg Value.bool (by simpa using hx), Below.refl _ _⟩)
            · exact fun _ _ _ he hd => ob_mv rfl rfl hd.1
            · exact fun aa ww hb he hd => ob_off 22 rfl (by kernel_rfl) hd.1 rfl
            · exact fun aa ww hb he hd => ob_off 22 rfl (by kernel_rfl) hd.1 rfl
            · exact fun aa ww hb he hd => ob_off 22 rfl (by kernel_rfl) hd.1 rfl
            · exact fun aa ww hb he hd => ob_off 22 rfl (by kernel_rfl) hd.1 rfl
            · exact fun aa ww hb he hd => ob_off 22 rfl (by kernel_rfl) hd.1 rfl
            · exact fun aa ww hb he hd => ob_off 22 rfl (by kernel_rfl) hd.1 rfl
            · exact fun aa ww hb he hd => ob_off 22 rfl (by kernel_rfl) hd.1 rfl
            · exact fun aa ww hb he hd => ob_plain rfl (gives_pick true _ _ _ rfl hd.1 ⟨rfl, Below.refl _ _⟩)
          intro vs w5 hb hR
          have e30 : vs 10 = .bool true := hR 10 (by decide)
          clear hR
          simp only [putsL, Nat.zero_add, Nat.reduceAdd, List.take_succ_cons, List.take_zero, Act.put, List.setIfInBounds_toArray, List.set_cons_zero, List.set_cons_succ]
          rw [e30]
          clear e30
          go_wp2_with fail
          go_ret
          exact ⟨19, rfl, ⟨fun h => absurd rfl h, fun _ _ => rfl, fun _ h => absurd (h i hi) (by rw [← HXi.out]; exact HBad.out)⟩, bthen HB.out hb HB.out.size⟩
      by_cases hw : W i < 0
      · have HBad := Lib.hid (show ¬ (0 ≤ xi ∧ 0 ≤ W i) from fun h => by have := h.2; grind)
        · skip
          refine wp_region_seq (kss := [[], [(0, 20)], [(1, 21)], [(2, 22)], [(2, 22), (3, 23)], [(2, 22)], [(2, 22), (4, 24), (5, 25)], [(2, 22), (6, 26)], [(2, 22), (7, 27)], [(2, 22), (8, 28)], [(2, 22), (9, 29)]]) [(6, .int .i64 xi), (2, .pointer (some ⟨g2, 0, none⟩)), (5, .int .i64 ((i : Int)))] [EV (.int .i64 xi), EV (.bool false), EV (.bool false), EV (.pointer (some ⟨g2, 0, none⟩)), EV (.slice (some adW) l cw), EV (.int .i64 ((i : Int))), EV (.pointer (some (Addr.add adW (i * 3)))), Rw (b) (W i), EV (.int .i64 ((W i).num.sign)), EV (.bool true), EV (.bool true)] (by kernel_rfl) ⟨rfl, rfl, rfl, trivial⟩ ?_ ?_ ?_
          · exact ⟨eI, eI, eI, eI, eI, eI, eI, fun _ _ _ h hb => h.new hb, eI, eI, eI, trivial⟩
          · refine ⟨?_, ?_, ?_, ?_, ?_, ?_, ?_, ?_, ?_, ?_, ?_, trivial⟩
            · exact fun _ _ _ he hd => ob_mv rfl rfl he.1
            · exact fun aa ww hb he hd => ob_plain rfl (gives_lt_int xi 0 .i64 _ _ _ _ rfl hd.1 rfl ⟨congrArg Value.bool (by simpa using hx), Below.refl _ _⟩)
            · exact fun _ _ _ he hd => ob_mv rfl rfl hd.1
            · exact fun aa ww hb he hd => ob_on 22 rfl (by kernel_rfl) hd.1 (fld_cov (k := 0) rfl (by decide) he.2.1)
            · exact fun aa ww hb he hd => ob_on 22 rfl (by kernel_rfl) hd.1 (load_c28 rfl hd.2.1 (Blk.at0 HC.out hb))
            · exact fun aa ww hb he hd => ob_on 22 rfl (by kernel_rfl) hd.1 (gives_move _ rfl ⟨he.2.2.1, Below.refl _ _⟩)
            · exact fun aa ww hb he hd => ob_on 22 rfl (by kernel_rfl) hd.1 (idx_rs (by omega) rfl hd.2.1 hd.2.2.1)
            · exact fun aa ww hb he hd => ob_on 22 rfl (by kernel_rfl) hd.1 (load_rw rfl hd.2.1 (Rs.newW HW.out hb) (by omega))
            · exact fun aa ww hb he hd => ob_on 22 rfl (by kernel_rfl) hd.1 (gives_call1 _ _ _ rfl (by kernel_rfl) (sign_v (hd.2.1)))
            · exact fun aa ww hb he hd => ob_on 22 rfl (by kernel_rfl) hd.1 (gives_lt_int ((W i).num.sign) 0 .i64 _ _ _ _ rfl hd.2.1 rfl ⟨congrArg Value.bool (sign_lt.trans (decide_eq_true hw)), Below.refl _ _⟩)
            · exact fun aa ww hb he hd => ob_plain rfl (gives_pick false _ _ _ rfl hd.1 ⟨hd.2.1, Below.refl _ _⟩)
          intro vs w5 hb hR
          have e30 : vs 10 = .bool true := hR 10 (by decide)
          clear hR
          simp only [putsL, Nat.zero_add, Nat.reduceAdd, List.take_succ_cons, List.take_zero, Act.put, List.setIfInBounds_toArray, List.set_cons_zero, List.set_cons_succ]
          rw [e30]
          clear e30
          go_wp2_with fail
          go_ret
          exact ⟨19, rfl, ⟨fun h => absurd rfl h, fun _ _ => rfl, fun _ h => absurd (h i hi) (by rw [← HXi.out]; exact HBad.out)⟩, bthen HB.out hb HB.out.size⟩
      have HGd := Lib.hid (show 0 ≤ xi ∧ 0 ≤ W i from ⟨by omega, by grind⟩)
      · skip
        refine wp_region_seq (kss := [[], [(0, 20)], [(1, 21)], [(2, 22)], [(2, 22), (3, 23)], [(2, 22)], [(2, 22), (4, 24), (5, 25)], [(2, 22), (6, 26)], [(2, 22), (7, 27)], [(2, 22), (8, 28)], [(2, 22), (9, 29)]]) [(6, .int .i64 xi), (2, .pointer (some ⟨g2, 0, none⟩)), (5, .int .i64 ((i : Int)))] [EV (.int .i64 xi), EV (.bool false), EV (.bool false), EV (.pointer (some ⟨g2, 0, none⟩)), EV (.slice (some adW) l cw), EV (.int .i64 ((i : Int))), EV (.pointer (some (Addr.add adW (i * 3)))), Rw (b) (W i), EV (.int .i64 ((W i).num.sign)), EV (.bool false), EV (.bool false)] (by kernel_rfl) ⟨rfl, rfl, rfl, trivial⟩ ?_ ?_ ?_
        · exact ⟨eI, eI, eI, eI, eI, eI, eI, fun _ _ _ h hb => h.new hb, eI, eI, eI, trivial⟩
        · refine ⟨?_, ?_, ?_, ?_, ?_, ?_, ?_, ?_, ?_, ?_, ?_, trivial⟩
          · exact fun _ _ _ he hd => ob_mv rfl rfl he.1
          · exact fun aa ww hb he hd => ob_plain rfl (gives_lt_int xi 0 .i64 _ _ _ _ rfl hd.1 rfl ⟨congrArg Value.bool (by simpa using hx), Below.refl _ _⟩)
          · exact fun _ _ _ he hd => ob_mv rfl rfl hd.1
          · exact fun aa ww hb he hd => ob_on 22 rfl (by kernel_rfl) hd.1 (fld_cov (k := 0) rfl (by decide) he.2.1)
          · exact fun aa ww hb he hd => ob_on 22 rfl (by kernel_rfl) hd.1 (load_c28 rfl hd.2.1 (Blk.at0 HC.out hb))
          · exact fun aa ww hb he hd => ob_on 22 rfl (by kernel_rfl) hd.1 (gives_move _ rfl ⟨he.2.2.1, Below.refl _ _⟩)
          · exact fun aa ww hb he hd => ob_on 22 rfl (by kernel_rfl) hd.1 (idx_rs (by omega) rfl hd.2.1 hd.2.2.1)
          · exact fun aa ww hb he hd => ob_on 22 rfl (by kernel_rfl) hd.1 (load_rw rfl hd.2.1 (Rs.newW HW.out hb) (by omega))
          · exact fun aa ww hb he hd => ob_on 22 rfl (by kernel_rfl) hd.1 (gives_call1 _ _ _ rfl (by kernel_rfl) (sign_v (hd.2.1)))
          · exact fun aa ww hb he hd => ob_on 22 rfl (by kernel_rfl) hd.1 (gives_lt_int ((W i).num.sign) 0 .i64 _ _ _ _ rfl hd.2.1 rfl ⟨congrArg Value.bool (sign_lt.trans (decide_eq_false hw)), Below.refl _ _⟩)
          · exact fun aa ww hb he hd => ob_plain rfl (gives_pick false _ _ _ rfl hd.1 ⟨hd.2.1, Below.refl _ _⟩)
        intro vs w5 hb hR
        have e30 : vs 10 = .bool false := hR 10 (by decide)
        clear hR
        simp only [putsL, Nat.zero_add, Nat.reduceAdd, List.take_succ_cons, List.take_zero, Act.put, List.setIfInBounds_toArray, List.set_cons_zero, List.set_cons_succ]
        rw [e30]
        clear e30
        have HC9 := Lib.hid (HC.out.keep hb)
        have HW9 := Lib.hid (Rs.newW HW.out hb)
        have HB9 := Lib.hid (bthen HB.out hb HB.out.size)
        clear hb
        go_wp2_with fail
        go_roundg (gk - 1)
        case measure => omega
        case rel => exact ⟨i + 1, by go_num, by omega, Lib.hid ⟨fun j hj => by
          by_cases e : j = i
          · subst e; rw [← HXi.out]; exact HGd.out
          · exact HOk.out j (by omega), HC9.out, HW9.out, HB9.out⟩⟩
    · obtain rfl : l = i := by omega
      go_wp2_with fail
      go_ret
      exact ⟨0, rfl, ⟨fun h => absurd rfl h, fun _ ⟨j, hj, hbad⟩ => absurd (HOk.out j hj) hbad, fun _ _ => rfl⟩, HB.out⟩
end Go.Proofs.Ytpnklmgfdihjfaa
namespace Go.Proofs.Ytpnklmgfdihjfaa
open Go.RowKit
set_option linter.unusedVariables false
set_option linter.unusedSimpArgs false

set_option maxRecDepth 100000 in
set_option maxHeartbeats 4000000 in
theorem bit_any (i : Nat) (hi : i ≤ 100000) (w : World) : Calls Try.prog 84 #[.int .i64 (i : Int)] w (fun e w' => ∃ (A : Option Addr) (k c : Nat), e = .returned (.slice A k c) ∧ Num w' A k c (i / 32 + 1) (2 ^ i) ∧ Below w.heap.size w w') := by
  have hq : Int.tdiv (i : Int) 32 = ((i / 32 : Nat) : Int) := by rw [Int.tdiv_eq_ediv_of_nonneg (by omega)]; rfl
  have hr : Int.tmod (i : Int) 32 = ((i % 32 : Nat) : Int) := by rw [Int.tmod_eq_emod_of_nonneg (by omega)]; rfl
  obtain ⟨q, hq2⟩ : ∃ q, q = i / 32 := ⟨_, rfl⟩
  obtain ⟨r, hr2⟩ : ∃ r, r = i % 32 := ⟨_, rfl⟩
  rw [← hq2] at hq
  rw [← hr2] at hr
  have HQ := Lib.hid (show q = i / 32 ∧ r = i % 32 ∧ r < 32 from ⟨hq2, hr2, by omega⟩)
  have hq9 : q ≤ 3125 := by omega
  have hr9 : r < 32 := by omega
  rw [← hq2]
  clear hq2 hr2
  have hmk := mk_nat (q + 1) (by omega)
  simp only [Int.natCast_add, Int.natCast_one] at hmk
  have HB := Lib.hid (al w (.cells (urow (zer (q + 1))) 25))
  have HK := Lib.hid (Blk.new w 25 (urow (zer (q + 1))))
  go_enter Try.func84, Try.ntmps84
  go_upto_region 2 with (fail)
  clear hmk
  generalize w.alloc (.cells (urow (zer (q + 1))) 25) = w1 at *
  obtain ⟨g, hg⟩ : ∃ g, g = w.heap.size := ⟨_, rfl⟩
  rw [← hg] at HK ⊢
  have HG := Lib.hid hg; clear hg
  have hlen : (zer (q + 1)).length = q + 1 := zer_length _
  have cR : w1.cell? ⟨g, q, none⟩ = some (.int .u32 (nth (zer (q + 1)) q : Int)) := by rw [HK.out.cell, urow_get (by rw [hlen]; omega)]
  have fR : w1.frozen? ⟨g, q, none⟩ = false := HK.out.frozen q
  have i1 : (0 : Int) ≤ (q : Int) := by omega
  have i2 : (q : Int) < (q : Int) + 1 := by omega
  have i3 : (0 : Int) ≤ (r : Int) := by omega
  have i4 : (r : Int) < 32 := by omega
  have esh := shl_mod r hr9
  clear hlen
  go_wp2_with fail
  go_ret
  have hset := HK.out.set_ q (.int .u32 ((2 ^ r : Nat) : Int))
  rw [urow_set] at hset
  have hv := valB_set (b := 4294967296) (l := zer (q + 1)) (k := q) (x := 2 ^ r) (by rw [zer_length]; omega)
  have hz : nth (zer (q + 1)) q = 0 := by unfold nth zer; rw [List.getD_eq_getElem?_getD, List.getElem?_replicate]; simp
  have hz2 : valB 4294967296 (zer (q + 1)) = 0 := valB_zero _ _
  rw [hz, hz2, Nat.mul_zero, Nat.zero_add, Nat.add_zero] at hv
  have he : 4294967296 ^ q * 2 ^ r = 2 ^ i := by
    rw [show (4294967296 : Nat) = 2 ^ 32 from rfl, ← Nat.pow_mul, ← Nat.pow_add]
    congr 1
    have := HQ.out
    omega
  rw [he] at hv
  have h32 : 2 ^ r < 4294967296 := Nat.lt_of_lt_of_le (Nat.pow_lt_pow_right (by omega) hr9) (by decide)
  have hl2 : ((zer (q + 1)).set q (2 ^ r)).length = q + 1 := by rw [List.length_set, zer_length]
  have hd : ∀ d ∈ (zer (q + 1)).set q (2 ^ r), d < 4294967296 := fun d hd => by
    rcases List.mem_or_eq_of_mem_set hd with h | h
    · have := List.eq_of_mem_replicate h; omega
    · omega
  refine ⟨_, _, _, rfl, ⟨Nat.le_refl _, by omega, by omega, ?_, _, (by have h := Es.of_blk hset (by rw [hl2]; omega) hd; rw [hl2] at h; exact h), hv⟩, ?_⟩
  · rw [← hv]
    have := valB_lt (b := 4294967296) hd
    rw [hl2] at this
    exact this
  · exact HB.out.setCell (p := ⟨g, q, none⟩) (by show w.heap.size ≤ g; rw [HG.out]; exact Nat.le_refl _) _
end Go.Proofs.Ytpnklmgfdihjfaa
namespace Go.Proofs.Ytpnklmgfdihjfaa
open Go.RowKit
set_option linter.unusedVariables false
set_option linter.unusedSimpArgs false

theorem pow_bits {P b k : Nat} (h : P < 2 ^ b) {y : Nat} (hy : y ^ (k + 1) ≤ P) : y ≤ 2 ^ ((b + k) / (k + 1)) := by
  refine Classical.byContradiction fun hc => ?_
  have h1 : (2 ^ ((b + k) / (k + 1))) ^ (k + 1) ≤ y ^ (k + 1) := Nat.pow_le_pow_left (by omega) _
  rw [← Nat.pow_mul] at h1
  have h2 : b ≤ (b + k) / (k + 1) * (k + 1) := by
    have := Nat.div_add_mod (b + k) (k + 1)
    have := Nat.mod_lt (b + k) (show 0 < k + 1 by omega)
    rw [Nat.mul_comm]; omega
  have h3 := Nat.pow_le_pow_right (show 0 < 2 by decide) h2
  omega
set_option maxRecDepth 100000 in
set_option maxHeartbeats 8000000 in
theorem newton_any {A : Option Addr} {n c a P k : Nat} {w : World} (ha : Num w A n c a P) (hk : 1 ≤ k ∧ k ≤ 8) (ha5 : a ≤ 500) (hP : 1 ≤ P) :
    Calls Try.prog 83 #[.slice A n c, .int .i64 ((k : Int) + 1)] w (fun e w' => ∃ (A' : Option Addr) (n' c' r : Nat), e = .returned (.slice A' n' c') ∧ Num w' A' n' c' 600 r ∧ IsRoot P (k + 1) r ∧ Below w.heap.size w w') := by
  have HA := Lib.hid ha; clear ha
  have ek : (k : Int) + 1 - 1 = (k : Int) := by omega
  go_enter Try.func83, Try.ntmps83
  go_wp2_with fail
  refine (bits_n HA.out).mono ?_
  rintro e w1 ⟨b, rfl, hbits, hb3, rfl⟩
  have hPb : P < 2 ^ b := by rcases hbits with ⟨rfl, rfl⟩ | ⟨-, -, h⟩; exact Nat.one_pos; exact h
  have hb32 : b ≤ 32 * a := by
    refine Classical.byContradiction fun hc => ?_
    rcases hbits with ⟨-, h⟩ | ⟨h1, h2, h3⟩
    · omega
    · have h4 := HA.out.2.2.2.1
      have h5 : 2 ^ (32 * a) ≤ 2 ^ (b - 1) := Nat.pow_le_pow_right (by decide) (by omega)
      have h6 : PB a = 2 ^ (32 * a) := by unfold PB; rw [Nat.pow_mul]
      omega
  have HPb := Lib.hid hPb; clear hbits hPb
  obtain ⟨i, hi⟩ : ∃ i, i = (b + k) / (k + 1) := ⟨_, rfl⟩
  have hq : Int.tdiv ((b : Int) + k) ((k : Int) + 1) = (i : Int) := by
    rw [hi, show (b : Int) + k = ((b + k : Nat) : Int) by omega, show (k : Int) + 1 = ((k + 1 : Nat) : Int) by omega, ← Int.ofNat_tdiv]
  have eb : (b : Int) + ((k : Int) + 1) - 1 = (b : Int) + k := by omega
  have hib : i ≤ b := by
    rw [hi]
    have : (b + k) / (k + 1) < b + 1 := by
      rw [Nat.div_lt_iff_lt_mul (by omega), Nat.add_mul, Nat.mul_add]
      have := Nat.zero_le (b * k)
      omega
    omega
  have HI := Lib.hid hi; clear hi
  go_wp2_with fail
  refine (bit_any i (by omega) w).mono ?_
  rintro e w2 ⟨A0, n0, c0, rfl, h0, hb⟩
  obtain ⟨K, hK⟩ : ∃ K, K = i / 32 + 1 := ⟨_, rfl⟩
  rw [← hK] at h0
  have hK5 : K ≤ 501 := by omega
  have HS := Lib.hid (show Num w2 A0 n0 c0 K (2 ^ i) ∧ 0 < 2 ^ i ∧ (∀ y, y ^ (k + 1) ≤ P → y ≤ 2 ^ i) ∧ Num w2 A n c a P ∧ Below w.heap.size w w2 from ⟨h0, Nat.pow_pos (by decide), fun y hy => by rw [HI.out]; exact pow_bits HPb.out hy, HA.out.new hb, hb⟩)
  clear h0 hb hK hq eb hib HI HPb hb32 hb3 HA
  go_wp2_with fail
  go_loopg [5] (2 ^ i + 1) (fun g xv wr => ∃ (A1 : Option Addr) (n1 c1 x : Nat), xv = .slice A1 n1 c1 ∧ x < g ∧ Hid (Num wr A1 n1 c1 K x ∧ 0 < x ∧ (∀ y, y ^ (k + 1) ≤ P → y ≤ x) ∧ Num wr A n c a P ∧ Below w.heap.size w wr))
  case atStart => exact ⟨A0, n0, c0, 2 ^ i, rfl, by omega, HS⟩
  case round =>
    obtain ⟨A1, n1, c1, x, rfl, hxg, HI⟩ := hrel
    clear HS
    obtain ⟨G, hG⟩ : ∃ G, G = gk := ⟨_, rfl⟩
    subst hG
    go_wp2_with fail
    refine (of_n 1 (by omega) _).mono ?_
    rintro e w3 ⟨A2, n2, c2, rfl, h2, -, hb⟩
    have HJ := Lib.hid (show Num w3 A1 n1 c1 K x ∧ 0 < x ∧ (∀ y, y ^ (k + 1) ≤ P → y ≤ x) ∧ Num w3 A n c a P ∧ Below w.heap.size w w3 from ⟨HI.out.1.new hb, HI.out.2.1, HI.out.2.2.1, HI.out.2.2.2.1.new hb, bthen HI.out.2.2.2.2 hb HI.out.2.2.2.2.size⟩)
    have HO := Lib.hid h2
    clear h2 hb HI
    go_wp2_with fail
    go_loopg [25, 6] k (fun g iv bv wq => ∃ (j : Nat) (A3 : Option Addr) (n3 c3 : Nat), iv = .int .i64 j ∧ bv = .slice A3 n3 c3 ∧ j + g = k ∧ Hid (Num wq A3 n3 c3 (2 + j * K) (x ^ j) ∧ Below w3.heap.size w3 wq))
    case atStart => exact ⟨0, A2, n2, c2, rfl, rfl, by omega, Lib.hid ⟨by rw [Nat.zero_mul, Nat.pow_zero]; exact HO.out, Below.refl _ _⟩⟩
    case round =>
      obtain ⟨j, A3, n3, c3, rfl, rfl, hjk, HL⟩ := hrel
      clear HO
      have hjK : j * K ≤ 8 * 501 := Nat.mul_le_mul (by omega) hK5
      by_cases hj : j < k
      · have j1 : ((j : Int) < (k : Int)) := by omega
        go_wp2_with fail
        refine (mul_n HL.out.1 (HJ.out.1.new HL.out.2) (by omega)).mono ?_
        rintro e w4 ⟨A4, n4, c4, rfl, h4, -, hb⟩
        have HL2 := Lib.hid (show Num w4 A4 n4 c4 (2 + (j + 1) * K) (x ^ (j + 1)) ∧ Below w3.heap.size w3 w4 from ⟨by rw [Nat.pow_succ, Nat.add_mul, Nat.one_mul, ← Nat.add_assoc]; exact h4, bthen HL.out.2 hb HL.out.2.size⟩)
        clear h4 hb HL
        go_wp2_with fail
        go_roundg (gk - 1)
        case measure => omega
        case rel => exact ⟨j + 1, A4, n4, c4, by go_num, rfl, by omega, HL2⟩
      · obtain rfl : k = j := by omega
        go_wp2_with fail
        refine (dm_n (HJ.out.2.2.2.1.new HL.out.2) HL.out.1 (by omega) (by omega)).mono ?_
        rintro e w4 ⟨-, h4⟩
        obtain ⟨A4, n4, c4, A5, n5, c5, rfl, ⟨h4, -⟩, -, hb⟩ := h4 (by have := Nat.pow_pos (n := k) HJ.out.2.1; omega)
        have hb34 := bthen HL.out.2 hb HL.out.2.size
        have HM := Lib.hid (show Num w4 A4 n4 c4 a (P / x ^ k) ∧ Num w4 A1 n1 c1 K x ∧ Num w4 A n c a P ∧ Below w.heap.size w w4 from ⟨h4, HJ.out.1.new hb34, HJ.out.2.2.2.1.new hb34, bthen HJ.out.2.2.2.2 hb34 HJ.out.2.2.2.2.size⟩)
        have HF := Lib.hid (show 0 < x ∧ (∀ y, y ^ (k + 1) ≤ P → y ≤ x) from ⟨HJ.out.2.1, HJ.out.2.2.1⟩)
        clear h4 hb hb34 HL HJ
        have e1 : IntKind.u64.wrap (k : Int) = (k : Int) := IntWalk.u64_in _ (by omega)
        have e2 : IntKind.u64.wrap ((k : Int) + 1) = ((k + 1 : Nat) : Int) := by rw [IntWalk.u64_in _ (by omega)]; omega
        go_wp2_with fail
        refine (of_n k (by omega) _).mono ?_
        rintro e w5 ⟨A6, n6, c6, rfl, h6, -, hb⟩
        have HM2 := Lib.hid (show Num w5 A4 n4 c4 a (P / x ^ k) ∧ Num w5 A1 n1 c1 K x ∧ Num w5 A n c a P ∧ Below w.heap.size w w5 from ⟨HM.out.1.new hb, HM.out.2.1.new hb, HM.out.2.2.1.new hb, bthen HM.out.2.2.2 hb HM.out.2.2.2.size⟩)
        have H6 := Lib.hid h6
        clear h6 hb HM
        go_wp2_with fail
        refine (mul_n H6.out HM2.out.2.1 (by omega)).mono ?_
        rintro e w6 ⟨A7, n7, c7, rfl, h7, -, hb⟩
        have HM3 := Lib.hid (show Num w6 A4 n4 c4 a (P / x ^ k) ∧ Num w6 A1 n1 c1 K x ∧ Num w6 A n c a P ∧ Below w.heap.size w w6 from ⟨HM2.out.1.new hb, HM2.out.2.1.new hb, HM2.out.2.2.1.new hb, bthen HM2.out.2.2.2 hb HM2.out.2.2.2.size⟩)
        have H7 := Lib.hid h7
        clear h7 hb HM2 H6
        go_wp2_with fail
        refine (add_n H7.out HM3.out.1 (by omega)).mono ?_
        rintro e w7 ⟨A8, n8, c8, rfl, h8, -, hb⟩
        have HM4 := Lib.hid (show Num w7 A1 n1 c1 K x ∧ Num w7 A n c a P ∧ Below w.heap.size w w7 from ⟨HM3.out.2.1.new hb, HM3.out.2.2.1.new hb, bthen HM3.out.2.2.2 hb HM3.out.2.2.2.size⟩)
        have H8 := Lib.hid h8
        clear h8 hb HM3 H7
        go_wp2_with fail
        refine (of_n (k + 1) (by omega) _).mono ?_
        rintro e w8 ⟨A9, n9, c9, rfl, h9, -, hb⟩
        have HM5 := Lib.hid (show Num w8 A1 n1 c1 K x ∧ Num w8 A n c a P ∧ Below w.heap.size w w8 ∧ Num w8 A8 n8 c8 (2 + K + a) (k * x + P / x ^ k) from ⟨HM4.out.1.new hb, HM4.out.2.1.new hb, bthen HM4.out.2.2 hb HM4.out.2.2.size, H8.out.new hb⟩)
        have H9 := Lib.hid h9
        clear h9 hb HM4 H8
        go_wp2_with fail
        refine (dm_n HM5.out.2.2.2 H9.out (by omega) (by omega)).mono ?_
        rintro e wa ⟨-, ha⟩
        obtain ⟨Aa, na, ca, Ab, nb, cb, rfl, ⟨ha, -⟩, -, hb⟩ := ha (by omega)
        have HM6 := Lib.hid (show Num wa A1 n1 c1 K x ∧ Num wa A n c a P ∧ Below w.heap.size w wa ∧ Num wa Aa na ca (2 + K + a) (nstep P k x) from ⟨HM5.out.1.new hb, HM5.out.2.1.new hb, bthen HM5.out.2.2.1 hb HM5.out.2.2.1.size, ha⟩)
        clear ha hb HM5 H9
        go_wp2_with fail
        refine (cmp_n HM6.out.2.2.2 HM6.out.1).mono ?_
        rintro e wb ⟨rfl, hb⟩
        have HM7 := Lib.hid (show Num wb A1 n1 c1 K x ∧ Num wb A n c a P ∧ Below w.heap.size w wb ∧ Num wb Aa na ca (2 + K + a) (nstep P k x) from ⟨HM6.out.1.new hb, HM6.out.2.1.new hb, bthen HM6.out.2.2.1 hb HM6.out.2.2.1.size, HM6.out.2.2.2.new hb⟩)
        clear hb HM6 e1 e2
        by_cases hs : x ≤ nstep P k x
        · have t0 : (cmpN (nstep P k x) x ≥ 0) := by unfold cmpN; split; omega; split <;> omega
          have HS2 := Lib.hid hs; clear hs
          go_wp2_with fail
          go_ret
          exact ⟨_, _, _, x, rfl, HM7.out.1.more (by omega), IsRoot.of_max (nstep_stop HF.out.1 HS2.out) HF.out.2, HM7.out.2.2.1⟩
        · have t0 : ¬ (cmpN (nstep P k x) x ≥ 0) := by unfold cmpN; rw [if_pos (by omega)]; omega
          have hlt : nstep P k x < x := by omega
          have HS2 := Lib.hid hs; clear hs
          have HN := Lib.hid (show Num wb Aa na ca K (nstep P k x) ∧ 0 < nstep P k x ∧ (∀ y, y ^ (k + 1) ≤ P → y ≤ nstep P k x) ∧ Num wb A n c a P ∧ Below w.heap.size w wb from ⟨HM7.out.2.2.2.up (Nat.lt_trans hlt HM7.out.1.2.2.2.1) HM7.out.1.2.1, nstep_ge (y := 1) HF.out.1 (by rw [Nat.one_pow]; exact hP), fun y hy => nstep_ge HF.out.1 hy, HM7.out.2.1, HM7.out.2.2.1⟩)
          go_wp2_with fail
          go_roundg (nstep P k x + 1)
          case measure => omega
          case rel => exact ⟨Aa, na, ca, nstep P k x, rfl, by omega, HN⟩
set_option maxRecDepth 100000 in
set_option maxHeartbeats 8000000 in
/-- root, for exponents up to 9. -/
theorem root_any {A : Option Addr} {n c a P k : Nat} {w : World} (ha : Num w A n c a P) (hk : k ≤ 8) (ha5 : a ≤ 500) :
    Calls Try.prog 46 #[.slice A n c, .int .i64 ((k : Int) + 1)] w (fun e w' => ∃ (A' : Option Addr) (n' c' r : Nat), e = .returned (.slice A' n' c') ∧ Num w' A' n' c' 600 r ∧ IsRoot P (k + 1) r ∧ Below w.heap.size w w') := by
  have HA := Lib.hid ha; clear ha
  go_enter Try.func46, Try.ntmps46
  go_wp2_with fail
  refine (bits_n HA.out).mono ?_
  rintro e w1 ⟨b, rfl, hbits, hb3, rfl⟩
  by_cases hb1 : b ≤ 1
  · have t0 : decide ((b : Int) ≤ 1) = true := by simp; omega
    have hP1 : P ≤ 1 := by
      rcases hbits with ⟨rfl, _⟩ | ⟨h1, h2, h3⟩
      · omega
      · have : b = 1 := by omega
        subst this
        omega
    have HP1 := Lib.hid hP1; clear hbits hP1
    go_wp2_with fail
    refine (norm_n HA.out (by omega)).mono ?_
    rintro e w2 ⟨A2, n2, c2, rfl, h2, -, hb⟩
    have H2 := Lib.hid (show Num w2 A2 n2 c2 600 P ∧ Below w.heap.size w w2 from ⟨h2.more (by omega), hb⟩)
    clear h2 hb
    go_wp2_with fail
    go_ret
    exact ⟨_, _, _, P, rfl, H2.out.1, root_small (by omega) HP1.out, H2.out.2⟩
  · have t0 : decide ((b : Int) ≤ 1) = false := by simp; omega
    have hP2 : 2 ≤ P ∧ P < 2 ^ b := by
      rcases hbits with ⟨_, h⟩ | ⟨h1, h2, h3⟩
      · omega
      · exact ⟨Nat.le_trans (show 2 ≤ 2 ^ (b - 1) from Nat.le_trans (show 2 ≤ 2 ^ 1 by decide) (Nat.pow_le_pow_right (by decide) (by omega))) h2, h3⟩
    have HP2 := Lib.hid hP2; clear hbits hP2
    by_cases hk0 : k = 0
    · subst hk0
      go_wp2_with fail
      refine (norm_n HA.out (by omega)).mono ?_
      rintro e w2 ⟨A2, n2, c2, rfl, h2, -, hb⟩
      have H2 := Lib.hid (show Num w2 A2 n2 c2 600 P ∧ Below w.heap.size w w2 from ⟨h2.more (by omega), hb⟩)
      clear h2 hb
      go_wp2_with fail
      go_ret
      exact ⟨_, _, _, P, rfl, H2.out.1, root_exp1 P, H2.out.2⟩
    · have t1 : ((k : Int) + 1 == 1) = false := by simp; omega
      by_cases hkb : b ≤ k + 1
      · have t2 : ((k : Int) + 1 ≥ (b : Int)) := by omega
        go_wp2_with fail
        refine (of_n 1 (by omega) _).mono ?_
        rintro e w2 ⟨A2, n2, c2, rfl, h2, -, hb⟩
        have H2 := Lib.hid (show Num w2 A2 n2 c2 600 1 ∧ Below w.heap.size w w2 from ⟨h2.more (by omega), hb⟩)
        clear h2 hb
        go_wp2_with fail
        go_ret
        exact ⟨_, _, _, 1, rfl, H2.out.1, root_one (by have := HP2.out.1; omega) (Nat.lt_of_lt_of_le HP2.out.2 (Nat.pow_le_pow_right (by decide) hkb)), H2.out.2⟩
      · have t2 : ¬ ((k : Int) + 1 ≥ (b : Int)) := by omega
        have t3 : ((k : Int) + 1 ≤ 64) := by omega
        go_wp2_with fail
        refine (newton_any HA.out (by omega) ha5 (by have := HP2.out.1; omega)).mono ?_
        rintro e w2 ⟨A2, n2, c2, r, rfl, h2, h3, hb⟩
        have H2 := Lib.hid (show Num w2 A2 n2 c2 600 r ∧ IsRoot P (k + 1) r ∧ Below w.heap.size w w2 from ⟨h2, h3, hb⟩)
        clear h2 h3 hb
        go_wp2_with fail
        go_ret
        exact ⟨_, _, _, r, rfl, H2.out.1, H2.out.2.1, H2.out.2.2⟩
end Go.Proofs.Ytpnklmgfdihjfaa
namespace Go.Proofs.Ytpnklmgfdihjfaa
open Go.RowKit
set_option linter.unusedVariables false
set_option linter.unusedSimpArgs false

theorem SzR.zero {l m : Nat} {xs : List Int} {W : Nat → Rat} (h : SzR l m xs W 0) : l = m ∧ ∀ j, j < m → 0 ≤ inth xs j ∧ 0 ≤ W j := by
  have e : l = m := by
    by_cases e : l = m
    · exact e
    · have := h.1 e; omega
  refine ⟨e, fun j hj => ?_⟩
  by_cases h0 : 0 ≤ inth xs j ∧ 0 ≤ W j
  · exact h0
  · have := h.2.1 e ⟨j, hj, h0⟩; omega
/-- What a bound needs of weights and sizes. -/
def BdP (m : Nat) (W : Nat → Rat) (xs : List Int) : Prop := dlcm W m ≤ 9 ∧ ∀ i, i < m → inth xs i ≤ 1000000 ∧ expW (W i) (dlcm W m) ≤ 1000 ∧ (inth xs i).toNat ^ expW (W i) (dlcm W m) < PB 60
/-- What Bound answers. -/
def BndR (l m : Nat) (xs : List Int) (W : Nat → Rat) (v : Value) (w : World) : Prop := (∃ z : Int, z ≠ 0 ∧ SzR l m xs W z ∧ v = .tuple #[.slice none 0 0, .int .i64 z]) ∨ (l = m ∧ (∀ j, j < m → 0 ≤ inth xs j ∧ 0 ≤ W j) ∧ ∃ (A : Option Addr) (k c r : Nat), v = .tuple #[.slice A k c, .int .i64 0] ∧ Num w A k c 600 r ∧ IsRoot (prodP xs W (dlcm W m) m) (dlcm W m) r)
/-- What Within answers. -/
def WinR (N l m : Nat) (xs : List Int) (W : Nat → Rat) (v : Value) : Prop := (∃ z : Int, z ≠ 0 ∧ SzR l m xs W z ∧ v = .tuple #[.bool false, .int .i64 z]) ∨ (l = m ∧ (∀ j, j < m → 0 ≤ inth xs j ∧ 0 ≤ W j) ∧ v = .tuple #[.bool (decide (N ^ dlcm W m ≤ prodP xs W (dlcm W m) m)), .int .i64 0])
theorem nine2 {n : Nat} (h : n ≤ 9) : n < PB 2 := Nat.lt_of_le_of_lt h (by rw [PB]; decide)
theorem cmp_le0 {N M : Nat} : decide (cmpN N M ≤ 0) = decide (N ≤ M) := by
  unfold cmpN
  by_cases h : N < M
  · rw [if_pos h]; simp; omega
  · rw [if_neg h]
    by_cases h2 : M < N
    · rw [if_pos h2]; simp; omega
    · rw [if_neg h2]; simp; omega
set_option maxRecDepth 100000 in
set_option maxHeartbeats 8000000 in
theorem cvbound_any (l m np cw cp cx b : Nat) (AW AP AX : Option Addr) (s0 : Bool) (A0 B0 : Option Addr) (k0 c0 m0 d0 : Nat) (W : Nat → Rat) (xs : List Int) (w : World) (hW : Rs w w.heap.size AW m (PW w b W)) (hX : Xs w w.heap.size AX l xs) (hl : l ≤ 1000) (hm : m ≤ 8) (hb : 2 + b ≤ 4900) (hBd : l = m → (∀ j, j < m → 0 ≤ inth xs j ∧ 0 ≤ W j) → BdP m W xs) :
    Calls Try.prog 17 #[.agg #[.slice AW m cw, .slice AP np cp, .bool s0, .slice A0 k0 c0, .slice B0 m0 d0], .slice AX l cx] w (RV w (BndR l m xs W)) := by
  have HW := Lib.hid hW; have HX := Lib.hid hX; have HBd := Lib.hid hBd
  clear hW hX hBd
  go_enter Try.func17, Try.ntmps17
  go_upto_region 1 with (fail)
  have hbw := al w (.cells #[.slice AW m cw, .slice AP np cp, .bool s0, .slice A0 k0 c0, .slice B0 m0 d0] 33)
  have HCv := Lib.hid (Blk.new w 33 #[.slice AW m cw, .slice AP np cp, .bool s0, .slice A0 k0 c0, .slice B0 m0 d0])
  have HB := Lib.hid hbw
  replace HW := Lib.hid (Rs.newW HW.out hbw)
  replace HX := Lib.hid (HX.out.new hbw)
  clear hbw
  generalize w.alloc (.cells #[.slice AW m cw, .slice AP np cp, .bool s0, .slice A0 k0 c0, .slice B0 m0 d0] 33) = w1 at *
  obtain ⟨g4, hg4⟩ : ∃ g4, g4 = w.heap.size := ⟨_, rfl⟩
  rw [← hg4] at HCv ⊢
  have HGg4 := Lib.hid (show w.heap.size ≤ g4 from by omega)
  clear hg4
  have x0 := Blk.at0 HCv.out (Below.refl _ _); have x1 := Blk.at1 HCv.out (Below.refl _ _); have x2 := Blk.at2 HCv.out (Below.refl _ _); have x3 := Blk.at3 HCv.out (Below.refl _ _); have x4 := Blk.at4 HCv.out (Below.refl _ _)
  go_wp2_with fail
  refine (sizes_any l m np cw cp cx b AW AP AX s0 A0 B0 k0 c0 m0 d0 W xs w1 HW.out HX.out (by omega)).mono ?_
  rintro e w2 ⟨z, rfl, hz, hb⟩
  clear x0 x1 x2 x3 x4
  have HSz := Lib.hid hz; clear hz
  replace HW := Lib.hid (Rs.newW HW.out hb)
  replace HX := Lib.hid (HX.out.new hb)
  replace HB := Lib.hid (bthen HB.out hb HB.out.size)
  replace HCv := Lib.hid (HCv.out.keep hb)
  clear hb
  by_cases hz0 : z = 0
  rotate_left
  · have t0 : (z != 0) = true := by simpa using hz0
    go_wp2_with fail
    first | exact bodyPost_ret (results_tmp2 rfl _ _ _) rfl ⟨_, rfl, .inl ⟨z, hz0, HSz.out, rfl⟩, HB.out⟩ | exact bodyPost_end (results_tmp2 rfl _ _ _) rfl ⟨_, rfl, .inl ⟨z, hz0, HSz.out, rfl⟩, HB.out⟩
  subst hz0
  obtain ⟨hlm, hok⟩ := HSz.out.zero
  subst hlm
  have HOk := Lib.hid hok
  obtain ⟨hd9, hbd⟩ := HBd.out rfl hok
  obtain ⟨D, hD⟩ : ∃ D, D = dlcm W l := ⟨_, rfl⟩
  rw [← hD] at hd9 hbd
  have HD := Lib.hid hD; have HBe := Lib.hid hbd
  have HD9 := Lib.hid hd9; have HD0 := Lib.hid (show D ≠ 0 by rw [hD]; exact dlcm_ne W l)
  clear hD hbd hok HBd hd9
  have x0 := Blk.at0 HCv.out (Below.refl _ _)
  go_wp2_with fail
  refine (denom_any l cw b AW W w2 HW.out (by omega) (by omega) (by rw [← HD.out]; exact nine2 HD9.out)).mono ?_
  rintro e w3 ⟨A1, n1, c1, rfl, h1, hb⟩
  clear x0
  rw [← HD.out] at h1
  have HDn := Lib.hid h1; clear h1
  replace HW := Lib.hid (Rs.newW HW.out hb)
  replace HX := Lib.hid (HX.out.new hb)
  replace HB := Lib.hid (bthen HB.out hb HB.out.size)
  replace HCv := Lib.hid (HCv.out.keep hb)
  clear hb
  go_wp2_with fail
  refine (exponent_ok HDn.out (by have := HD9.out; omega)).mono ?_
  rintro e w4 ⟨rfl, rfl⟩
  have x0 := Blk.at0 HCv.out (Below.refl _ _)
  go_wp2_with fail
  refine (prod_any l cw b D l cx n1 c1 AW AX A1 W xs _ HW.out HX.out HDn.out (by omega) (by omega) (fun i hi => ⟨⟨(HOk.out i hi).1, (HBe.out i hi).1⟩, (HBe.out i hi).2⟩)).mono ?_
  rintro e w5 ⟨v5, rfl, ⟨A5, n5, c5, rfl, h5⟩, hb⟩
  clear x0
  have HQ := Lib.hid h5; clear h5
  replace HW := Lib.hid (Rs.newW HW.out hb)
  replace HX := Lib.hid (HX.out.new hb)
  replace HB := Lib.hid (bthen HB.out hb HB.out.size)
  replace HCv := Lib.hid (HCv.out.keep hb)
  replace HDn := Lib.hid (HDn.out.new hb)
  clear hb
  obtain ⟨k, hk⟩ : ∃ k, k + 1 = D := ⟨D - 1, by have := HD0.out; omega⟩
  have hk8 : k ≤ 8 := by have := HD9.out; omega
  have HK := Lib.hid hk
  have ek : ((D : Nat) : Int) = (k : Int) + 1 := by omega
  rw [ek]
  clear hk ek
  go_wp2_with fail
  refine (root_any HQ.out hk8 (by omega)).mono ?_
  rintro e w6 ⟨A6, n6, c6, r, rfl, h6, hr, hb⟩
  have HR := Lib.hid h6; have HRt := Lib.hid hr; clear h6 hr
  replace HW := Lib.hid (Rs.newW HW.out hb)
  replace HX := Lib.hid (HX.out.new hb)
  replace HB := Lib.hid (bthen HB.out hb HB.out.size)
  replace HCv := Lib.hid (HCv.out.keep hb)
  replace HDn := Lib.hid (HDn.out.new hb)
  replace HQ := Lib.hid (HQ.out.new hb)
  clear hb
  go_wp2_with fail
  first | exact bodyPost_ret (results_tmp2 rfl _ _ _) rfl ⟨_, rfl, .inr ⟨rfl, HOk.out, _, _, _, r, rfl, HR.out, by rw [← HD.out]; have hq := HRt.out; rw [HK.out] at hq; exact hq⟩, HB.out⟩ | exact bodyPost_end (results_tmp2 rfl _ _ _) rfl ⟨_, rfl, .inr ⟨rfl, HOk.out, _, _, _, r, rfl, HR.out, by rw [← HD.out]; have hq := HRt.out; rw [HK.out] at hq; exact hq⟩, HB.out⟩
set_option maxRecDepth 100000 in
set_option maxHeartbeats 8000000 in
theorem cvwithin_any (AC : Option Addr) (nC cC a N : Nat) (l m np cw cp cx b : Nat) (AW AP AX : Option Addr) (s0 : Bool) (A0 B0 : Option Addr) (k0 c0 m0 d0 : Nat) (W : Nat → Rat) (xs : List Int) (w : World) (hW : Rs w w.heap.size AW m (PW w b W)) (hX : Xs w w.heap.size AX l xs) (hl : l ≤ 1000) (hm : m ≤ 8) (hb : 2 + b ≤ 4900) (hBd : l = m → (∀ j, j < m → 0 ≤ inth xs j ∧ 0 ≤ W j) → BdP m W xs) (hC : Num w AC nC cC a N) (hF : l = m → (∀ j, j < m → 0 ≤ inth xs j ∧ 0 ≤ W j) → N ^ dlcm W m < bigP) :
    Calls Try.prog 16 #[.slice AC nC cC, .agg #[.slice AW m cw, .slice AP np cp, .bool s0, .slice A0 k0 c0, .slice B0 m0 d0], .slice AX l cx] w (RV w (fun v _ => WinR N l m xs W v)) := by
  have HW := Lib.hid hW; have HX := Lib.hid hX; have HBd := Lib.hid hBd; have HC := Lib.hid hC; have HF := Lib.hid hF
  clear hW hX hBd hC hF
  go_enter Try.func16, Try.ntmps16
  go_upto_region 1 with (fail)
  have hbw := al w (.cells #[.slice AW m cw, .slice AP np cp, .bool s0, .slice A0 k0 c0, .slice B0 m0 d0] 33)
  have HCv := Lib.hid (Blk.new w 33 #[.slice AW m cw, .slice AP np cp, .bool s0, .slice A0 k0 c0, .slice B0 m0 d0])
  have HB := Lib.hid hbw
  replace HW := Lib.hid (Rs.newW HW.out hbw)
  replace HX := Lib.hid (HX.out.new hbw)
  replace HC := Lib.hid (HC.out.new hbw)
  clear hbw
  generalize w.alloc (.cells #[.slice AW m cw, .slice AP np cp, .bool s0, .slice A0 k0 c0, .slice B0 m0 d0] 33) = w1 at *
  obtain ⟨g4, hg4⟩ : ∃ g4, g4 = w.heap.size := ⟨_, rfl⟩
  rw [← hg4] at HCv ⊢
  have HGg4 := Lib.hid (show w.heap.size ≤ g4 from by omega)
  clear hg4
  have x0 := Blk.at0 HCv.out (Below.refl _ _); have x1 := Blk.at1 HCv.out (Below.refl _ _); have x2 := Blk.at2 HCv.out (Below.refl _ _); have x3 := Blk.at3 HCv.out (Below.refl _ _); have x4 := Blk.at4 HCv.out (Below.refl _ _)
  go_wp2_with fail
  refine (sizes_any l m np cw cp cx b AW AP AX s0 A0 B0 k0 c0 m0 d0 W xs w1 HW.out HX.out (by omega)).mono ?_
  rintro e w2 ⟨z, rfl, hz, hb⟩
  clear x0 x1 x2 x3 x4
  have HSz := Lib.hid hz; clear hz
  replace HW := Lib.hid (Rs.newW HW.out hb)
  replace HX := Lib.hid (HX.out.new hb)
  replace HC := Lib.hid (HC.out.new hb)
  replace HB := Lib.hid (bthen HB.out hb HB.out.size)
  replace HCv := Lib.hid (HCv.out.keep hb)
  clear hb
  by_cases hz0 : z = 0
  rotate_left
  · have t0 : (z != 0) = true := by simpa using hz0
    go_wp2_with fail
    first | exact bodyPost_ret (results_tmp2 rfl _ _ _) rfl ⟨_, rfl, .inl ⟨z, hz0, HSz.out, rfl⟩, HB.out⟩ | exact bodyPost_end (results_tmp2 rfl _ _ _) rfl ⟨_, rfl, .inl ⟨z, hz0, HSz.out, rfl⟩, HB.out⟩
  subst hz0
  obtain ⟨hlm, hok⟩ := HSz.out.zero
  subst hlm
  have HOk := Lib.hid hok
  obtain ⟨hd9, hbd⟩ := HBd.out rfl hok
  obtain ⟨D, hD⟩ : ∃ D, D = dlcm W l := ⟨_, rfl⟩
  rw [← hD] at hd9 hbd
  have HD := Lib.hid hD; have HBe := Lib.hid hbd
  have HD9 := Lib.hid hd9; have HD0 := Lib.hid (show D ≠ 0 by rw [hD]; exact dlcm_ne W l)
  clear hD hbd hok HBd hd9
  have HF2 := Lib.hid (show N ^ D < bigP by rw [HD.out]; exact HF.out rfl HOk.out)
  clear HF
  have x0 := Blk.at0 HCv.out (Below.refl _ _)
  go_wp2_with fail
  refine (denom_any l cw b AW W w2 HW.out (by omega) (by omega) (by rw [← HD.out]; exact nine2 HD9.out)).mono ?_
  rintro e w3 ⟨A1, n1, c1, rfl, h1, hb⟩
  clear x0
  rw [← HD.out] at h1
  have HDn := Lib.hid h1; clear h1
  replace HW := Lib.hid (Rs.newW HW.out hb)
  replace HX := Lib.hid (HX.out.new hb)
  replace HC := Lib.hid (HC.out.new hb)
  replace HB := Lib.hid (bthen HB.out hb HB.out.size)
  replace HCv := Lib.hid (HCv.out.keep hb)
  clear hb
  go_wp2_with fail
  refine (pow_nv ⟨_, _, _, rfl, HC.out⟩ ⟨_, _, _, rfl, HDn.out⟩ (by have := HD9.out; omega) HF2.out).mono ?_
  rintro e w4 ⟨v4, rfl, ⟨A14, n4, c4, rfl, h4⟩, hb⟩
  have HP := Lib.hid h4; clear h4
  replace HW := Lib.hid (Rs.newW HW.out hb)
  replace HX := Lib.hid (HX.out.new hb)
  replace HC := Lib.hid (HC.out.new hb)
  replace HB := Lib.hid (bthen HB.out hb HB.out.size)
  replace HCv := Lib.hid (HCv.out.keep hb)
  replace HDn := Lib.hid (HDn.out.new hb)
  clear hb
  have x0 := Blk.at0 HCv.out (Below.refl _ _)
  go_wp2_with fail
  refine (prod_any l cw b D l cx n1 c1 AW AX A1 W xs _ HW.out HX.out HDn.out (by omega) (by omega) (fun i hi => ⟨⟨(HOk.out i hi).1, (HBe.out i hi).1⟩, (HBe.out i hi).2⟩)).mono ?_
  rintro e w5 ⟨v5, rfl, ⟨A5, n5, c5, rfl, h5⟩, hb⟩
  clear x0
  have HQ := Lib.hid h5; clear h5
  replace HW := Lib.hid (Rs.newW HW.out hb)
  replace HX := Lib.hid (HX.out.new hb)
  replace HC := Lib.hid (HC.out.new hb)
  replace HB := Lib.hid (bthen HB.out hb HB.out.size)
  replace HCv := Lib.hid (HCv.out.keep hb)
  replace HDn := Lib.hid (HDn.out.new hb)
  replace HP := Lib.hid (HP.out.new hb)
  clear hb
  go_wp2_with fail
  refine (cmp_n HP.out HQ.out).mono ?_
  rintro e w6 ⟨rfl, hb⟩
  replace HW := Lib.hid (Rs.newW HW.out hb)
  replace HX := Lib.hid (HX.out.new hb)
  replace HC := Lib.hid (HC.out.new hb)
  replace HB := Lib.hid (bthen HB.out hb HB.out.size)
  replace HCv := Lib.hid (HCv.out.keep hb)
  replace HDn := Lib.hid (HDn.out.new hb)
  replace HP := Lib.hid (HP.out.new hb)
  replace HQ := Lib.hid (HQ.out.new hb)
  clear hb
  have t0 := cmp_le0 (N := N ^ D) (M := prodP xs W D l)
  go_wp2_with fail
  first | exact bodyPost_ret (results_tmp2 rfl _ _ _) rfl ⟨_, rfl, .inr ⟨rfl, HOk.out, by rw [← HD.out]; rfl⟩, HB.out⟩ | exact bodyPost_end (results_tmp2 rfl _ _ _) rfl ⟨_, rfl, .inr ⟨rfl, HOk.out, by rw [← HD.out]; rfl⟩, HB.out⟩
end Go.Proofs.Ytpnklmgfdihjfaa
namespace Go.Proofs.Ytpnklmgfdihjfaa
open Go.RowKit
set_option linter.unusedVariables false
set_option linter.unusedSimpArgs false

/-- The weights of the triangle. -/
def TriW (W : Nat → Rat) : Prop := W 0 = 1 / 2 ∧ W 1 = 1 / 2 ∧ W 2 = 1 / 2
theorem half_den : ((1 : Rat) / 2).den = 2 := by decide +kernel
theorem half_exp : expW (1 / 2) 2 = 1 := by decide +kernel
theorem TriW.d {W : Nat → Rat} (h : TriW W) : dlcm W 3 = 2 := by
  show Nat.lcm (Nat.lcm (Nat.lcm 1 (W 0).den) (W 1).den) (W 2).den = 2
  rw [h.1, h.2.1, h.2.2, half_den]; rfl
theorem TriW.p {W : Nat → Rat} (h : TriW W) (x y z : Int) : prodP [x, y, z] W 2 3 = x.toNat * y.toNat * z.toNat := by
  show 1 * x.toNat ^ expW (W 0) 2 * y.toNat ^ expW (W 1) 2 * z.toNat ^ expW (W 2) 2 = _
  rw [h.1, h.2.1, h.2.2, half_exp, Nat.pow_one, Nat.pow_one, Nat.pow_one, Nat.one_mul]
theorem TriW.ok {W : Nat → Rat} (h : TriW W) {x y z : Int} (hx : 0 ≤ x) (hy : 0 ≤ y) (hz : 0 ≤ z) : ∀ j, j < 3 → 0 ≤ inth [x, y, z] j ∧ 0 ≤ W j
  | 0, _ => ⟨hx, by rw [h.1]; decide +kernel⟩
  | 1, _ => ⟨hy, by rw [h.2.1]; decide +kernel⟩
  | 2, _ => ⟨hz, by rw [h.2.2]; decide +kernel⟩
  | n + 3, hj => absurd hj (by omega)
theorem small60 {n : Nat} (h : n ≤ 1000) : n ^ 1 < PB 60 := by
  rw [Nat.pow_one]
  exact Nat.lt_of_lt_of_le (show n < PB 1 by rw [PB]; omega) (PB_mono (by omega))
theorem TriW.bd {W : Nat → Rat} (h : TriW W) {x y z : Int} (hx : x ≤ 1000) (hy : y ≤ 1000) (hz : z ≤ 1000) : BdP 3 W [x, y, z] := by
  refine ⟨by rw [h.d]; decide, ?_⟩
  rw [h.d]
  intro i hi
  match i, hi with
  | 0, _ => exact ⟨show x ≤ 1000000 by omega, by rw [h.1, half_exp]; decide, by rw [h.1, half_exp]; exact small60 (show x.toNat ≤ 1000 by omega)⟩
  | 1, _ => exact ⟨show y ≤ 1000000 by omega, by rw [h.2.1, half_exp]; decide, by rw [h.2.1, half_exp]; exact small60 (show y.toNat ≤ 1000 by omega)⟩
  | 2, _ => exact ⟨show z ≤ 1000000 by omega, by rw [h.2.2, half_exp]; decide, by rw [h.2.2, half_exp]; exact small60 (show z.toNat ≤ 1000 by omega)⟩
  | n + 3, hj => exact absurd hj (by omega)
theorem bnd_tri {W : Nat → Rat} {v : Value} {w : World} (h : BndR 3 3 [2, 3, 4] W v w) (ht : TriW W) : PwV 600 4 v w := by
  rcases h with ⟨z, hz, hs, -⟩ | ⟨-, -, A, k, c, r, h1, h2, h3⟩
  · exact absurd (hs.2.2 rfl (ht.ok (by decide) (by decide) (by decide))) hz
  · rw [ht.d, ht.p] at h3
    obtain rfl := IsRoot.unique h3 (show IsRoot _ 2 4 by unfold IsRoot; decide) (by decide)
    exact ⟨A, k, c, h1, h2⟩
theorem win_tri {N : Nat} {W : Nat → Rat} {v : Value} (h : WinR N 3 3 [4, 4, 4] W v) (ht : TriW W) : v = .tuple #[.bool (decide (N ^ 2 ≤ 64)), .int .i64 0] := by
  rcases h with ⟨z, hz, hs, -⟩ | ⟨-, -, h1⟩
  · exact absurd (hs.2.2 rfl (ht.ok (by decide) (by decide) (by decide))) hz
  · rw [ht.d, ht.p] at h1
    exact h1
theorem CovOK.es {n m s : Nat} {es es' : Nat → Nat} {W P : Nat → Rat} {v : Rat} (h : CovOK n m es s W P v) (he : ∀ i, i < m → es i = es' i) : CovOK n m es' s W P v :=
  ⟨h.w0, h.p0, h.pz, fun x hx hb => by rw [← sm_congr (f := fun i => if (es i).testBit x then W i else 0) (fun i hi => by rw [he i hi])]; exact h.cov x hx hb, fun i hi => by have := h.pac i hi; rw [he i hi] at this; exact this, h.ws, h.ps⟩
theorem tri_es : ∀ i, i < 3 → nth [3, 6, 5] i = triE i
  | 0, _ => rfl
  | 1, _ => rfl
  | 2, _ => rfl
  | n + 3, h => absurd h (by omega)
theorem cmp_nv {w : World} {a b N M : Nat} {u v : Value} (h : Nv a N u w) (h' : Nv b M v w) : Calls Try.prog 18 #[u, v] w (RV w (fun z _ => z = .int .i64 (cmpN N M))) := by
  obtain ⟨A, k, c, rfl, h⟩ := h
  obtain ⟨B, m, d, rfl, h'⟩ := h'
  refine (cmp_n h h').mono ?_
  rintro e w2 ⟨rfl, hb⟩
  exact ⟨_, rfl, rfl, hb⟩
theorem gives_bs_i3 {o : Oper} {a : Act} {w : World} {x y z : Int} (ho : o.op = .buildSlice 45 3 #[(0, .const (.int .i64 x)), (1, .const (.int .i64 y)), (2, .const (.int .i64 z))]) : gives Try.prog o a.eval w (fun v w' => (∃ g : Nat, v = .slice (some ⟨g, 0, none⟩) 3 3 ∧ Blk w' g 3 #[.int .i64 x, .int .i64 y, .int .i64 z]) ∧ Below w.heap.size w w') := by
  have hr : (execOp a.eval o).run Try.prog w = .ok (.value (.slice (some ⟨w.heap.size, 0, none⟩) 3 3)) (w.alloc (.cells #[.int .i64 x, .int .i64 y, .int .i64 z] 3)) := by
    unfold execOp
    rw [ho]
    go_simp
  unfold gives
  rw [hr]
  exact ⟨⟨_, rfl, Blk.new _ _ _⟩, al _ _⟩
theorem xs3 {w : World} {g : Nat} {x y z : Int} (h : Blk w g 3 #[.int .i64 x, .int .i64 y, .int .i64 z]) (hx : -1000 ≤ x ∧ x ≤ 1000) (hy : -1000 ≤ y ∧ y ≤ 1000) (hz : -1000 ≤ z ∧ z ≤ 1000) : Xs w w.heap.size (some ⟨g, 0, none⟩) 3 [x, y, z] :=
  Xs.of_blk (l := [x, y, z]) h (by simp) (by
    intro u hu
    simp only [List.mem_cons, List.not_mem_nil, or_false] at hu
    rcases hu with rfl | rfl | rfl <;> omega)
set_option maxRecDepth 100000 in
set_option maxHeartbeats 8000000 in
theorem awake29_any (w : World) : Calls Try.prog 10 #[] w fun e w' => e = .returned (.bool true) ∧ Below w.heap.size w w' := by
  go_enter Try.func10, Try.ntmps10
  go_upto_region 2 with (fail)
  have hbw := bthen (al w (.cells #[.int .u32 3, .int .u32 6, .int .u32 5] 25)) (al _ (.cells #[.int .i64 3, .slice (some ⟨w.heap.size, 0, none⟩) 3 3] 24)) (by simp)
  have HE3 := Lib.hid ((Blk.new w 25 #[.int .u32 3, .int .u32 6, .int .u32 5]).keep (al _ (.cells #[.int .i64 3, .slice (some ⟨w.heap.size, 0, none⟩) 3 3] 24)))
  have HG := Lib.hid (Blk.new (w.alloc (.cells #[.int .u32 3, .int .u32 6, .int .u32 5] 25)) 24 #[.int .i64 3, .slice (some ⟨w.heap.size, 0, none⟩) 3 3])
  rw [show (w.alloc (.cells #[.int .u32 3, .int .u32 6, .int .u32 5] 25)).heap.size = w.heap.size + 1 from by simp] at HG
  have HB := Lib.hid hbw
  clear hbw
  generalize (w.alloc (.cells #[.int .u32 3, .int .u32 6, .int .u32 5] 25)).alloc (.cells #[.int .i64 3, .slice (some ⟨w.heap.size, 0, none⟩) 3 3] 24) = w1 at *
  obtain ⟨g9, hg9⟩ : ∃ g9, g9 = w.heap.size := ⟨_, rfl⟩
  obtain ⟨g1, hg1⟩ : ∃ g1, g1 = w.heap.size + 1 := ⟨_, rfl⟩
  rw [← hg1] at HG ⊢
  rw [← hg9] at HE3 HG ⊢
  have HGg9 := Lib.hid (show w.heap.size ≤ g9 ∧ w.heap.size ≤ g1 from by omega)
  clear hg9 hg1
  have x0 := Blk.at0 HG.out (Below.refl _ _); have x1 := Blk.at1 HG.out (Below.refl _ _)
  go_wp2_with fail
  refine (cvof_any 3 7 3 3 (some ⟨g9, 0, none⟩) [3, 6, 5] w1 (Es.of_blk (l := [3, 6, 5]) HE3.out (by decide) (by decide)) (by omega) (fun _ => ⟨by omega, by omega⟩)).mono ?_
  rintro e w2 ⟨v, rfl, hv, hb⟩
  obtain ⟨u, rfl, W, P, x, hok, AW, cw, AP, cp, s0, A0, k0, c0, B0, m0, d0, rfl, hW, -, hV⟩ := hv.2.2.2 (by decide) (by decide) (by decide)
  clear hv x0 x1
  have htri := tri_cov (hok.es tri_es)
  obtain ⟨rfl, ht0⟩ := htri
  have HT := Lib.hid (show TriW W from ht0); clear ht0 hok
  have HW := Lib.hid hW; have HV := Lib.hid hV; clear hW hV
  clear HE3 HG
  replace HB := Lib.hid (bthen HB.out hb HB.out.size)
  clear hb
  go_upto_region 3 with (fail)
  have hbw := al w2 (.cells #[.slice AW 3 cw, .slice AP 3 cp, .bool s0, .slice A0 k0 c0, .slice B0 m0 d0] 33)
  have HC := Lib.hid (Blk.new w2 33 #[.slice AW 3 cw, .slice AP 3 cp, .bool s0, .slice A0 k0 c0, .slice B0 m0 d0])
  replace HB := Lib.hid (bthen HB.out hbw HB.out.size)
  replace HW := Lib.hid (Rs.newW HW.out hbw)
  replace HV := Lib.hid (HV.out.new hbw)
  clear hbw
  generalize w2.alloc (.cells #[.slice AW 3 cw, .slice AP 3 cp, .bool s0, .slice A0 k0 c0, .slice B0 m0 d0] 33) = w3 at *
  obtain ⟨g2, hg2⟩ : ∃ g2, g2 = w2.heap.size := ⟨_, rfl⟩
  rw [← hg2] at HC ⊢
  have HGg2 := Lib.hid (show w2.heap.size ≤ g2 from by omega)
  clear hg2
  refine wp_region_seq (kss := [[], [], [(0, 18), (1, 19)], [(2, 20)], [(3, 17)], [(3, 17)], [(4, 21)], [(5, 22)]]) [(2, .pointer (some ⟨g2, 0, none⟩))] [EV (.agg #[.slice AW 3 cw, .slice AP 3 cp, .bool s0, .slice A0 k0 c0, .slice B0 m0 d0]), fun zz w' => ∃ g : Nat, zz = .slice (some ⟨g, 0, none⟩) 3 3 ∧ Blk w' g 3 #[.int .i64 2, .int .i64 3, .int .i64 4], PwV (600) (4), PwV (600) (4), Nv (600) (4), EV (.int .i64 0), Nv (600) (4), EV (.int .i64 0)] (by kernel_rfl) ⟨rfl, trivial⟩ ?_ ?_ ?_
  · exact ⟨eI, fun _ _ _ ⟨g, h1, h2⟩ hb => ⟨g, h1, h2.keep hb⟩, fun _ _ _ h hb => PwV.new h hb, fun _ _ _ h hb => PwV.new h hb, fun _ _ _ h hb => Nv.new h hb, eI, fun _ _ _ h hb => Nv.new h hb, eI, trivial⟩
  · refine ⟨?_, ?_, ?_, ?_, ?_, ?_, ?_, ?_, trivial⟩
    · exact fun aa ww hb he hd => ob_plain rfl (load_cov rfl he.1 (Blk.keep HC.out hb))
    · exact fun aa ww hb he hd => ob_plain rfl (gives_bs_i3 rfl)
    · exact fun aa ww hb he hd => ob_plain rfl (by obtain ⟨g8, e8, h8⟩ := hd.2.1; exact gives_call2 _ _ _ _ rfl (by kernel_rfl) (by rw [show aa.eval (.tmp 18) = _ from hd.1, show aa.eval (.tmp 19) = _ from e8]; exact (cvbound_any 3 3 3 cw cp 3 60 AW AP (some ⟨g8, 0, none⟩) s0 A0 B0 k0 c0 m0 d0 W [2, 3, 4] _ (Rs.newW HW.out hb) (xs3 h8 (by omega) (by omega) (by omega)) (by omega) (by omega) (by omega) (fun _ _ => HT.out.bd (by omega) (by omega) (by omega))).mono (fun _ _ ⟨v, h1, h2, h3⟩ => ⟨v, h1, bnd_tri h2 HT.out, h3⟩)))
    · exact fun _ _ _ he hd => ob_mv rfl rfl hd.1
    · exact fun aa ww hb he hd => ob_plain rfl (ext_pw rfl hd.1)
    · exact fun aa ww hb he hd => ob_plain rfl (ext_pw1 rfl hd.1)
    · exact fun aa ww hb he hd => ob_plain rfl (gives_assign _ rfl ⟨hd.1, Below.refl _ _⟩)
    · exact fun aa ww hb he hd => ob_plain rfl (gives_assign _ rfl ⟨hd.1, Below.refl _ _⟩)
  intro vs w4 hb hR
  have r4 : Nv (600) (4) (vs 6) w4 := hR 6 (by decide)
  have e5 : vs 7 = .int .i64 0 := hR 7 (by decide)
  clear hR
  simp only [putsL, Nat.zero_add, Nat.reduceAdd, List.take_succ_cons, List.take_zero, Act.put, List.setIfInBounds_toArray, List.set_cons_zero, List.set_cons_succ]
  rw [e5]
  clear e5
  obtain ⟨A14, k4, c4, e4, h4⟩ := r4
  rw [e4]
  clear e4
  have HN4 := Lib.hid h4; clear h4
  replace HB := Lib.hid (bthen HB.out hb HB.out.size)
  replace HW := Lib.hid (Rs.newW HW.out hb)
  replace HV := Lib.hid (HV.out.new hb)
  replace HC := Lib.hid (HC.out.keep hb)
  clear hb
  go_upto_region 4 with (fail)
  refine wp_region_each (kss := [[], [], [], [(0, 24), (1, 25), (2, 26)], [(3, 27)], [(4, 23)], [(4, 23)], [(5, 28)], [(6, 29)]]) [(2, .pointer (some ⟨g2, 0, none⟩))] [Nv (2) (8), EV (.agg #[.slice AW 3 cw, .slice AP 3 cp, .bool s0, .slice A0 k0 c0, .slice B0 m0 d0]), fun zz w' => ∃ g : Nat, zz = .slice (some ⟨g, 0, none⟩) 3 3 ∧ Blk w' g 3 #[.int .i64 4, .int .i64 4, .int .i64 4], EV (.tuple #[.bool true, .int .i64 0]), EV (.tuple #[.bool true, .int .i64 0]), EV (.bool true), EV (.int .i64 0), EV (.bool true), EV (.int .i64 0)] (by kernel_rfl) (by kernel_rfl) ⟨rfl, trivial⟩ ?_ ?_ ?_
  · exact ⟨fun _ _ _ h hb => Nv.new h hb, eI, fun _ _ _ ⟨g, h1, h2⟩ hb => ⟨g, h1, h2.keep hb⟩, eI, eI, eI, eI, eI, eI, trivial⟩
  · refine ⟨?_, ?_, ?_, ?_, ?_, ?_, ?_, ?_, ?_, trivial⟩
    · exact fun aa ww hb he hd => ob_plain rfl (gives_call1 _ _ _ rfl (by kernel_rfl) (nof_v (8) (by omega) _ rfl _))
    · exact fun aa ww hb he hd => ob_plain rfl (load_cov rfl he.1 (Blk.keep HC.out hb))
    · exact fun aa ww hb he hd => ob_plain rfl (gives_bs_i3 rfl)
    · exact fun aa ww hb he hd => ob_plain rfl (by obtain ⟨A7, k7, c7, e7, h7⟩ := hd.1; obtain ⟨g8, e8, h8⟩ := hd.2.2.1; exact gives_call3 _ _ _ _ _ rfl (by kernel_rfl) (by rw [show aa.eval (.tmp 24) = _ from e7, show aa.eval (.tmp 25) = _ from hd.2.1, show aa.eval (.tmp 26) = _ from e8]; exact (cvwithin_any A7 k7 c7 2 8 3 3 3 cw cp 3 60 AW AP (some ⟨g8, 0, none⟩) s0 A0 B0 k0 c0 m0 d0 W [4, 4, 4] _ (Rs.newW HW.out hb) (xs3 h8 (by omega) (by omega) (by omega)) (by omega) (by omega) (by omega) (fun _ _ => HT.out.bd (by omega) (by omega) (by omega)) h7 (fun _ _ => by rw [HT.out.d]; exact Nat.lt_of_lt_of_le (Nat.lt_of_lt_of_le (show _ < PB 1 by rw [PB]; decide) (PB_mono (by omega))) big60)).mono (fun _ _ ⟨v, h1, h2, h3⟩ => ⟨v, h1, win_tri h2 HT.out, h3⟩)))
    · exact fun _ _ _ he hd => ob_mv rfl rfl hd.1
    · exact fun aa ww hb he hd => ob_plain rfl (ext_c rfl hd.1 rfl)
    · exact fun aa ww hb he hd => ob_plain rfl (ext_c rfl hd.1 rfl)
    · exact fun aa ww hb he hd => ob_plain rfl (gives_assign _ rfl ⟨hd.1, Below.refl _ _⟩)
    · exact fun aa ww hb he hd => ob_plain rfl (gives_assign _ rfl ⟨hd.1, Below.refl _ _⟩)
  intro vs w5 hb hR
  have e6 : vs 7 = .bool true := hR 7 (by decide)
  have e7 : vs 8 = .int .i64 0 := hR 8 (by decide)
  clear hR
  simp only [putsL, Nat.zero_add, Nat.reduceAdd, List.take_succ_cons, List.take_zero, Act.put, List.setIfInBounds_toArray, List.set_cons_zero, List.set_cons_succ]
  rw [e6, e7]
  clear e6 e7
  replace HB := Lib.hid (bthen HB.out hb HB.out.size)
  replace HW := Lib.hid (Rs.newW HW.out hb)
  replace HV := Lib.hid (HV.out.new hb)
  replace HC := Lib.hid (HC.out.keep hb)
  replace HN4 := Lib.hid (HN4.out.new hb)
  clear hb
  go_upto_region 5 with (fail)
  refine wp_region_each (kss := [[], [], [], [(0, 31), (1, 32), (2, 33)], [(3, 34)], [(4, 30)], [(4, 30)], [(5, 35)], [(6, 36)]]) [(2, .pointer (some ⟨g2, 0, none⟩))] [Nv (2) (9), EV (.agg #[.slice AW 3 cw, .slice AP 3 cp, .bool s0, .slice A0 k0 c0, .slice B0 m0 d0]), fun zz w' => ∃ g : Nat, zz = .slice (some ⟨g, 0, none⟩) 3 3 ∧ Blk w' g 3 #[.int .i64 4, .int .i64 4, .int .i64 4], EV (.tuple #[.bool false, .int .i64 0]), EV (.tuple #[.bool false, .int .i64 0]), EV (.bool false), EV (.int .i64 0), EV (.bool false), EV (.int .i64 0)] (by kernel_rfl) (by kernel_rfl) ⟨rfl, trivial⟩ ?_ ?_ ?_
  · exact ⟨fun _ _ _ h hb => Nv.new h hb, eI, fun _ _ _ ⟨g, h1, h2⟩ hb => ⟨g, h1, h2.keep hb⟩, eI, eI, eI, eI, eI, eI, trivial⟩
  · refine ⟨?_, ?_, ?_, ?_, ?_, ?_, ?_, ?_, ?_, trivial⟩
    · exact fun aa ww hb he hd => ob_plain rfl (gives_call1 _ _ _ rfl (by kernel_rfl) (nof_v (9) (by omega) _ rfl _))
    · exact fun aa ww hb he hd => ob_plain rfl (load_cov rfl he.1 (Blk.keep HC.out hb))
    · exact fun aa ww hb he hd => ob_plain rfl (gives_bs_i3 rfl)
    · exact fun aa ww hb he hd => ob_plain rfl (by obtain ⟨A7, k7, c7, e7, h7⟩ := hd.1; obtain ⟨g8, e8, h8⟩ := hd.2.2.1; exact gives_call3 _ _ _ _ _ rfl (by kernel_rfl) (by rw [show aa.eval (.tmp 31) = _ from e7, show aa.eval (.tmp 32) = _ from hd.2.1, show aa.eval (.tmp 33) = _ from e8]; exact (cvwithin_any A7 k7 c7 2 9 3 3 3 cw cp 3 60 AW AP (some ⟨g8, 0, none⟩) s0 A0 B0 k0 c0 m0 d0 W [4, 4, 4] _ (Rs.newW HW.out hb) (xs3 h8 (by omega) (by omega) (by omega)) (by omega) (by omega) (by omega) (fun _ _ => HT.out.bd (by omega) (by omega) (by omega)) h7 (fun _ _ => by rw [HT.out.d]; exact Nat.lt_of_lt_of_le (Nat.lt_of_lt_of_le (show _ < PB 1 by rw [PB]; decide) (PB_mono (by omega))) big60)).mono (fun _ _ ⟨v, h1, h2, h3⟩ => ⟨v, h1, win_tri h2 HT.out, h3⟩)))
    · exact fun _ _ _ he hd => ob_mv rfl rfl hd.1
    · exact fun aa ww hb he hd => ob_plain rfl (ext_c rfl hd.1 rfl)
    · exact fun aa ww hb he hd => ob_plain rfl (ext_c rfl hd.1 rfl)
    · exact fun aa ww hb he hd => ob_plain rfl (gives_assign _ rfl ⟨hd.1, Below.refl _ _⟩)
    · exact fun aa ww hb he hd => ob_plain rfl (gives_assign _ rfl ⟨hd.1, Below.refl _ _⟩)
  intro vs w6 hb hR
  have e8 : vs 7 = .bool false := hR 7 (by decide)
  have e9 : vs 8 = .int .i64 0 := hR 8 (by decide)
  clear hR
  simp only [putsL, Nat.zero_add, Nat.reduceAdd, List.take_succ_cons, List.take_zero, Act.put, List.setIfInBounds_toArray, List.set_cons_zero, List.set_cons_succ]
  rw [e8, e9]
  clear e8 e9
  replace HB := Lib.hid (bthen HB.out hb HB.out.size)
  replace HW := Lib.hid (Rs.newW HW.out hb)
  replace HV := Lib.hid (HV.out.new hb)
  replace HC := Lib.hid (HC.out.keep hb)
  replace HN4 := Lib.hid (HN4.out.new hb)
  clear hb
  go_upto_region 6 with (fail)
  refine wp_region_each (kss := [[], [(0, 37)], [(1, 38)], [(2, 39)], [(2, 39), (3, 40)], [(2, 39), (4, 41)], [(5, 42)], [(6, 43)], [(6, 43), (7, 44)], [(6, 43), (8, 45)], [(9, 46)], [(10, 47)], [(10, 47), (11, 48)], [(10, 47), (12, 49)], [(13, 50)], [(14, 51)], [(14, 51), (15, 52)], [(14, 51)], [(14, 51), (16, 53), (17, 54)], [(14, 51), (18, 55)], [(14, 51), (19, 56)], [(20, 57)], [(21, 58)], [(21, 58)], [(21, 58), (22, 59), (23, 60)], [(21, 58), (24, 61)], [(21, 58), (25, 62)], [(26, 63)], [(27, 64)], [(27, 64), (28, 65)], [(29, 66)], [(30, 67)], [(30, 67), (31, 68)], [(30, 67), (32, 69)], [(33, 70)]]) [(3, .int .i64 0), (5, .int .i64 0), (7, .int .i64 0), (9, .int .i64 0), (2, .pointer (some ⟨g2, 0, none⟩)), (4, .slice A14 k4 c4), (6, .bool true), (8, .bool false)] [EV (.int .i64 0), EV (.bool true), EV (.bool true), EV (.int .i64 0), EV (.bool true), EV (.bool true), EV (.bool true), EV (.int .i64 0), EV (.bool true), EV (.bool true), EV (.bool true), EV (.int .i64 0), EV (.bool true), EV (.bool true), EV (.bool true), EV (.pointer (some ⟨g2, 2, none⟩)), Rw (60) (3 / 2), Rv (2) (((3 : Int) : Rat) / ((2 : Int) : Rat)), EV (.int .i64 (rcq (3 / 2) (((3 : Int) : Rat) / ((2 : Int) : Rat)))), EV (.bool true), EV (.bool true), EV (.bool true), Nv (600) (4), Nv (2) (4), EV (.int .i64 (cmpN 4 4)), EV (.bool true), EV (.bool true), EV (.bool true), EV (.bool true), EV (.bool true), EV (.bool true), EV (.bool false), EV (.bool true), EV (.bool true), EV (.bool true)] (by kernel_rfl) (by kernel_rfl) ⟨rfl, rfl, rfl, rfl, rfl, rfl, rfl, rfl, trivial⟩ ?_ ?_ ?_
  · exact ⟨eI, eI, eI, eI, eI, eI, eI, eI, eI, eI, eI, eI, eI, eI, eI, eI, fun _ _ _ h hb => h.new hb, fun _ _ _ h hb => h.new hb, eI, eI, eI, eI, fun _ _ _ h hb => Nv.new h hb, fun _ _ _ h hb => Nv.new h hb, eI, eI, eI, eI, eI, eI, eI, eI, eI, eI, eI, trivial⟩
  · refine ⟨?_, ?_, ?_, ?_, ?_, ?_, ?_, ?_, ?_, ?_, ?_, ?_, ?_, ?_, ?_, ?_, ?_, ?_, ?_, ?_, ?_, ?_, ?_, ?_, ?_, ?_, ?_, ?_, ?_, ?_, ?_, ?_, ?_, ?_, ?_, trivial⟩
    · exact fun _ _ _ he hd => ob_mv rfl rfl he.1
    · exact fun aa ww hb he hd => ob_plain rfl (gives_eq_int 0 0 .i64 _ _ _ _ rfl hd.1 rfl ⟨congrArg Value.bool (by decide), Below.refl _ _⟩)
    · exact fun _ _ _ he hd => ob_mv rfl rfl hd.1
    · exact fun aa ww hb he hd => ob_on 39 rfl (by kernel_rfl) hd.1 (gives_move _ rfl ⟨he.2.1, Below.refl _ _⟩)
    · exact fun aa ww hb he hd => ob_on 39 rfl (by kernel_rfl) hd.1 (gives_eq_int 0 0 .i64 _ _ _ _ rfl hd.2.1 rfl ⟨congrArg Value.bool (by decide), Below.refl _ _⟩)
    · exact fun aa ww hb he hd => ob_plain rfl (gives_pick true _ _ _ rfl hd.1 ⟨hd.2.1, Below.refl _ _⟩)
    · exact fun _ _ _ he hd => ob_mv rfl rfl hd.1
    · exact fun aa ww hb he hd => ob_on 43 rfl (by kernel_rfl) hd.1 (gives_move _ rfl ⟨he.2.2.1, Below.refl _ _⟩)
    · exact fun aa ww hb he hd => ob_on 43 rfl (by kernel_rfl) hd.1 (gives_eq_int 0 0 .i64 _ _ _ _ rfl hd.2.1 rfl ⟨congrArg Value.bool (by decide), Below.refl _ _⟩)
    · exact fun aa ww hb he hd => ob_plain rfl (gives_pick true _ _ _ rfl hd.1 ⟨hd.2.1, Below.refl _ _⟩)
    · exact fun _ _ _ he hd => ob_mv rfl rfl hd.1
    · exact fun aa ww hb he hd => ob_on 47 rfl (by kernel_rfl) hd.1 (gives_move _ rfl ⟨he.2.2.2.1, Below.refl _ _⟩)
    · exact fun aa ww hb he hd => ob_on 47 rfl (by kernel_rfl) hd.1 (gives_eq_int 0 0 .i64 _ _ _ _ rfl hd.2.1 rfl ⟨congrArg Value.bool (by decide), Below.refl _ _⟩)
    · exact fun aa ww hb he hd => ob_plain rfl (gives_pick true _ _ _ rfl hd.1 ⟨hd.2.1, Below.refl _ _⟩)
    · exact fun _ _ _ he hd => ob_mv rfl rfl hd.1
    · exact fun aa ww hb he hd => ob_on 51 rfl (by kernel_rfl) hd.1 (fld_cov (k := 2) rfl (by decide) he.2.2.2.2.1)
    · exact fun aa ww hb he hd => ob_on 51 rfl (by kernel_rfl) hd.1 (load_cvv rfl hd.2.1 (Blk.keep HC.out hb) (Rw.new HV.out hb))
    · exact fun aa ww hb he hd => ob_on 51 rfl (by kernel_rfl) hd.1 (gives_call2 _ _ _ _ rfl (by kernel_rfl) (of29_any 3 2 (by omega) (by omega) (by omega) _))
    · exact fun aa ww hb he hd => ob_on 51 rfl (by kernel_rfl) hd.1 (gives_call2 _ _ _ _ rfl (by kernel_rfl) (cmp_v (hd.2.1) (hd.2.2.1.rw) (by omega)))
    · exact fun aa ww hb he hd => ob_on 51 rfl (by kernel_rfl) hd.1 (gives_eq_int (rcq (3 / 2) (((3 : Int) : Rat) / ((2 : Int) : Rat))) 0 .i64 _ _ _ _ rfl hd.2.1 rfl ⟨congrArg Value.bool (by rw [rcq_eq (by decide +kernel)]; rfl), Below.refl _ _⟩)
    · exact fun aa ww hb he hd => ob_plain rfl (gives_pick true _ _ _ rfl hd.1 ⟨hd.2.1, Below.refl _ _⟩)
    · exact fun _ _ _ he hd => ob_mv rfl rfl hd.1
    · exact fun aa ww hb he hd => ob_on 58 rfl (by kernel_rfl) hd.1 (gives_move _ rfl ⟨⟨_, _, _, he.2.2.2.2.2.1, HN4.out.new hb⟩, Below.refl _ _⟩)
    · exact fun aa ww hb he hd => ob_on 58 rfl (by kernel_rfl) hd.1 (gives_call1 _ _ _ rfl (by kernel_rfl) (nof_v (4) (by omega) _ rfl _))
    · exact fun aa ww hb he hd => ob_on 58 rfl (by kernel_rfl) hd.1 (gives_call2 _ _ _ _ rfl (by kernel_rfl) (cmp_nv hd.2.1 hd.2.2.1))
    · exact fun aa ww hb he hd => ob_on 58 rfl (by kernel_rfl) hd.1 (gives_eq_int (cmpN 4 4) 0 .i64 _ _ _ _ rfl hd.2.1 rfl ⟨congrArg Value.bool (by decide), Below.refl _ _⟩)
    · exact fun aa ww hb he hd => ob_plain rfl (gives_pick true _ _ _ rfl hd.1 ⟨hd.2.1, Below.refl _ _⟩)
    · exact fun _ _ _ he hd => ob_mv rfl rfl hd.1
    · exact fun aa ww hb he hd => ob_on 64 rfl (by kernel_rfl) hd.1 (gives_move _ rfl ⟨he.2.2.2.2.2.2.1, Below.refl _ _⟩)
    · exact fun aa ww hb he hd => ob_plain rfl (gives_pick true _ _ _ rfl hd.1 ⟨hd.2.1, Below.refl _ _⟩)
    · exact fun _ _ _ he hd => ob_mv rfl rfl hd.1
    · exact fun aa ww hb he hd => ob_on 67 rfl (by kernel_rfl) hd.1 (gives_move _ rfl ⟨he.2.2.2.2.2.2.2.1, Below.refl _ _⟩)
    · exact fun aa ww hb he hd => ob_on 67 rfl (by kernel_rfl) hd.1 (gives_not false _ _ rfl hd.2.1 ⟨rfl, Below.refl _ _⟩)
    · exact fun aa ww hb he hd => ob_plain rfl (gives_pick true _ _ _ rfl hd.1 ⟨hd.2.1, Below.refl _ _⟩)
    · exact fun aa ww hb he hd => ob_plain rfl (gives_assign _ rfl ⟨hd.1, Below.refl _ _⟩)
  intro vs w7 hb hR
  have e0 : vs 34 = .bool true := hR 34 (by decide)
  clear hR
  simp only [putsL, Nat.zero_add, Nat.reduceAdd, List.take_succ_cons, List.take_zero, Act.put, List.setIfInBounds_toArray, List.set_cons_zero, List.set_cons_succ]
  rw [e0]
  clear e0
  replace HB := Lib.hid (bthen HB.out hb HB.out.size)
  replace HW := Lib.hid (Rs.newW HW.out hb)
  replace HV := Lib.hid (HV.out.new hb)
  replace HC := Lib.hid (HC.out.keep hb)
  replace HN4 := Lib.hid (HN4.out.new hb)
  clear hb
  go_wp2_with fail
  go_ret
  exact ⟨rfl, HB.out⟩
end Go.Proofs.Ytpnklmgfdihjfaa
namespace Go.Proofs.Ytpnklmgfdihjfaa
open Go.RowKit
set_option linter.unusedVariables false
set_option linter.unusedSimpArgs false

/-- An answer of Of: the cover's cells, and what they hold if there is no error. -/
def OfE (n : Int) (es : List Nat) (len s : Nat) (z : Int) (AW : Option Addr) (mW cw : Nat) (AP : Option Addr) (nP cp : Nat) (s0 : Bool) (A0 : Option Addr) (k0 c0 : Nat) (B0 : Option Addr) (m0 d0 : Nat) (w : World) : Prop :=
  z = 0 → checkCode n es = 0 ∧ andn s (2 ^ n.toNat - 1) = 0 ∧ andn s (orE es len) = 0 ∧ ∃ (W P : Nat → Rat) (x : Rat), mW = len ∧ nP = n.toNat ∧ CovOK n.toNat len (nth es) s W P x ∧ Rs w w.heap.size AW len (PW w 60 W) ∧ Rs w w.heap.size AP n.toNat (PW w 60 P) ∧ Rw 60 x (.agg #[.bool s0, .slice A0 k0 c0, .slice B0 m0 d0]) w
theorem CvOfR.get {n : Int} {es : List Nat} {len s : Nat} {v : Value} {w : World} (h : CvOfR n es len s v w) : ∃ (z : Int) (AW : Option Addr) (mW cw : Nat) (AP : Option Addr) (nP cp : Nat) (s0 : Bool) (A0 : Option Addr) (k0 c0 : Nat) (B0 : Option Addr) (m0 d0 : Nat),
    v = .tuple #[.agg #[.slice AW mW cw, .slice AP nP cp, .bool s0, .slice A0 k0 c0, .slice B0 m0 d0], .int .i64 z] ∧ OfE n es len s z AW mW cw AP nP cp s0 A0 k0 c0 B0 m0 d0 w := by
  obtain ⟨h1, h2, h3, h4⟩ := h
  by_cases e1 : checkCode n es = 0
  · by_cases e2 : andn s (2 ^ n.toNat - 1) = 0
    · by_cases e3 : andn s (orE es len) = 0
      · obtain ⟨u, rfl, W, P, x, hok, AW, cw, AP, cp, s0, A0, k0, c0, B0, m0, d0, rfl, hW, hP, hV⟩ := h4 e1 e2 e3
        exact ⟨0, AW, _, cw, AP, _, cp, s0, A0, k0, c0, B0, m0, d0, rfl, fun _ => ⟨e1, e2, e3, W, P, x, rfl, rfl, hok, hW, hP, hV⟩⟩
      · exact ⟨9, _, _, _, _, _, _, _, _, _, _, _, _, _, h3 e1 e2 e3, fun h => by omega⟩
    · exact ⟨3, _, _, _, _, _, _, _, _, _, _, _, _, _, h2 e1 e2, fun h => by omega⟩
  · exact ⟨_, _, _, _, _, _, _, _, _, _, _, _, _, _, h1 e1, fun h => absurd h e1⟩
theorem OfE.new {n : Int} {es : List Nat} {len s : Nat} {z : Int} {AW AP A0 B0 : Option Addr} {mW cw nP cp k0 c0 m0 d0 : Nat} {s0 : Bool} {w w' : World} (h : OfE n es len s z AW mW cw AP nP cp s0 A0 k0 c0 B0 m0 d0 w) (hb : Below w.heap.size w w') : OfE n es len s z AW mW cw AP nP cp s0 A0 k0 c0 B0 m0 d0 w' := fun e => by
  obtain ⟨h1, h2, h3, W, P, x, e1, e2, h4, h5, h6, h7⟩ := h e
  exact ⟨h1, h2, h3, W, P, x, e1, e2, h4, Rs.newW h5 hb, Rs.newW h6 hb, h7.new hb⟩
end Go.Proofs.Ytpnklmgfdihjfaa
namespace Go.Proofs.Ytpnklmgfdihjfaa
open Go.RowKit
set_option linter.unusedVariables false
set_option linter.unusedSimpArgs false

section
variable {n : Int} {len ce : Nat} {AE : Option Addr} {es : List Nat} {s : Nat} {AW : Option Addr} {mW cw : Nat} {AP : Option Addr} {nP cp : Nat} {s0 : Bool} {A0 : Option Addr} {k0 c0 : Nat} {B0 : Option Addr} {m0 d0 : Nat} {W P : Nat → Rat} {x : Rat} {b g3 g4 g5 g7 g8 g9 : Nat} {w0 w w' : World} {B B' : Bool}
end
end Go.Proofs.Ytpnklmgfdihjfaa
namespace Go.Proofs.Ytpnklmgfdihjfaa
open Go.RowKit
set_option linter.unusedVariables false
set_option linter.unusedSimpArgs false

end Go.Proofs.Ytpnklmgfdihjfaa
