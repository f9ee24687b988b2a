/-
The walk of CoverSubsets. Printed by gen/scv.py.
-/
import Derived.Test.YtpnklmgfdihjfaaK15
namespace Go.Proofs.Ytpnklmgfdihjfaa
open Go.RowKit
set_option linter.unusedVariables false
set_option linter.unusedSimpArgs false

/-- An answer of Of: the cover's cells, and what they hold if there is no error. -/
def OfE (n : Int) (es : List Nat) (len s : Nat) (z : Int) (AW : Option Addr) (mW cw : Nat) (AP : Option Addr) (nP cp : Nat) (s0 : Bool) (A0 : Option Addr) (k0 c0 : Nat) (B0 : Option Addr) (m0 d0 : Nat) (w : World) : Prop :=
  z = 0 → checkCode n es = 0 ∧ andn s (2 ^ n.toNat - 1) = 0 ∧ andn s (orE es len) = 0 ∧ ∃ (W P : Nat → Rat) (x : Rat), mW = len ∧ nP = n.toNat ∧ CovOK n.toNat len (nth es) s W P x ∧ Rs w w.heap.size AW len (PW w 60 W) ∧ Rs w w.heap.size AP n.toNat (PW w 60 P) ∧ Rw 60 x (.agg #[.bool s0, .slice A0 k0 c0, .slice B0 m0 d0]) w
theorem CvOfR.get {n : Int} {es : List Nat} {len s : Nat} {v : Value} {w : World} (h : CvOfR n es len s v w) : ∃ (z : Int) (AW : Option Addr) (mW cw : Nat) (AP : Option Addr) (nP cp : Nat) (s0 : Bool) (A0 : Option Addr) (k0 c0 : Nat) (B0 : Option Addr) (m0 d0 : Nat),
    v = .tuple #[.agg #[.slice AW mW cw, .slice AP nP cp, .bool s0, .slice A0 k0 c0, .slice B0 m0 d0], .int .i64 z] ∧ OfE n es len s z AW mW cw AP nP cp s0 A0 k0 c0 B0 m0 d0 w := by
  obtain ⟨h1, h2, h3, h4⟩ := h
  by_cases e1 : checkCode n es = 0
  · by_cases e2 : andn s (2 ^ n.toNat - 1) = 0
    · by_cases e3 : andn s (orE es len) = 0
      · obtain ⟨u, rfl, W, P, x, hok, AW, cw, AP, cp, s0, A0, k0, c0, B0, m0, d0, rfl, hW, hP, hV⟩ := h4 e1 e2 e3
        exact ⟨0, AW, _, cw, AP, _, cp, s0, A0, k0, c0, B0, m0, d0, rfl, fun _ => ⟨e1, e2, e3, W, P, x, rfl, rfl, hok, hW, hP, hV⟩⟩
      · exact ⟨9, _, _, _, _, _, _, _, _, _, _, _, _, _, h3 e1 e2 e3, fun h => by omega⟩
    · exact ⟨3, _, _, _, _, _, _, _, _, _, _, _, _, _, h2 e1 e2, fun h => by omega⟩
  · exact ⟨_, _, _, _, _, _, _, _, _, _, _, _, _, _, h1 e1, fun h => absurd h e1⟩
theorem andn_or0 {a b m : Nat} (ha : andn a m = 0) (hb : andn b m = 0) : andn (a ||| b) m = 0 := by
  unfold andn at ha hb ⊢
  rw [Nat.and_or_distrib_right, ha, hb]; rfl
theorem cv_led {x y : Rat} (h : x ≤ y) : decide (rcq x y ≤ 0) = true := by
  rw [decide_eq_true_iff]
  unfold rcq
  split
  · omega
  · rw [if_neg (Rat.not_lt.2 h)]; omega
theorem OfE.new {n : Int} {es : List Nat} {len s : Nat} {z : Int} {AW AP A0 B0 : Option Addr} {mW cw nP cp k0 c0 m0 d0 : Nat} {s0 : Bool} {w w' : World} (h : OfE n es len s z AW mW cw AP nP cp s0 A0 k0 c0 B0 m0 d0 w) (hb : Below w.heap.size w w') : OfE n es len s z AW mW cw AP nP cp s0 A0 k0 c0 B0 m0 d0 w' := fun e => by
  obtain ⟨h1, h2, h3, W, P, x, e1, e2, h4, h5, h6, h7⟩ := h e
  exact ⟨h1, h2, h3, W, P, x, e1, e2, h4, Rs.newW h5 hb, Rs.newW h6 hb, h7.new hb⟩
set_option maxRecDepth 100000 in
set_option maxHeartbeats 8000000 in
theorem subsets_any (n : Int) (len ce a b : Nat) (AE : Option Addr) (es : List Nat) (w : World) (hE : Es w w.heap.size AE len es) (ha : a < 4294967296) (hb0 : b < 4294967296) :
    Calls Try.prog 3 #[.agg #[.int .i64 n, .slice AE len ce], .int .u32 (a : Int), .int .u32 (b : Int)] w fun e w' => e = .returned (.bool true) ∧ Below w.heap.size w w' := by
  have HE0 := Lib.hid hE; clear hE
  have HAB := Lib.hid (show a < 4294967296 ∧ b < 4294967296 from ⟨ha, hb0⟩); clear ha hb0
  go_enter Try.func3, Try.ntmps3
  go_upto_region 1 with (fail)
  have hbw := al w (.cells #[.int .i64 n, .slice AE len ce] 24)
  have HG := Lib.hid (Blk.new w 24 #[.int .i64 n, .slice AE len ce])
  have HB := Lib.hid hbw
  clear hbw
  generalize w.alloc (.cells #[.int .i64 n, .slice AE len ce] 24) = w1 at *
  obtain ⟨g3, hg3⟩ : ∃ g3, g3 = w.heap.size := ⟨_, rfl⟩
  rw [← hg3] at HG ⊢
  have HGg3 := Lib.hid (show w.heap.size ≤ g3 from by omega)
  clear hg3
  have x0 := Blk.at0 HG.out (Below.refl _ _); have x1 := Blk.at1 HG.out (Below.refl _ _)
  go_wp2_with fail
  refine (great29_any n len ce AE es w1 ((HE0.out.below HB.out).more HB.out.size)).mono ?_
  rintro e w2 ⟨v, rfl, ⟨t, rfl, ht⟩, hb⟩
  clear x0 x1
  have HT := Lib.hid ht; clear ht
  replace HB := Lib.hid (bthen HB.out hb HB.out.size)
  replace HG := Lib.hid (HG.out.keep hb)
  clear hb
  cases t with
  | true =>
    go_wp2_with fail
    refine (awake29_any _).mono ?_
    rintro e w3 ⟨rfl, hb⟩
    go_wp2_with fail
    go_ret
    exact ⟨rfl, bthen HB.out hb HB.out.size⟩
  | false =>
    have HGr := Lib.hid (HT.out rfl); clear HT
    have x0 := Blk.at0 HG.out (Below.refl _ _); have x1 := Blk.at1 HG.out (Below.refl _ _)
    go_wp2_with fail
    refine (cvof_any n (a) len ce AE es w2 ((HE0.out.below HB.out).more HB.out.size) HAB.out.1 HGr.out.1).mono ?_
    rintro e w3 ⟨v, rfl, hv, hb⟩
    obtain ⟨z1, AW1, mW1, cw1, AP1, nP1, cp1, s1, A1, k1, c1, B1, m1, d1, rfl, ho⟩ := hv.get
    clear hv x0 x1
    have HO1 := Lib.hid ho; clear ho
    replace HB := Lib.hid (bthen HB.out hb HB.out.size)
    replace HG := Lib.hid (HG.out.keep hb)
    clear hb
    go_upto_region 4 with (fail)
    have hbw := al w3 (.cells #[.slice AW1 mW1 cw1, .slice AP1 nP1 cp1, .bool s1, .slice A1 k1 c1, .slice B1 m1 d1] 33)
    have H7 := Lib.hid (Blk.new w3 33 #[.slice AW1 mW1 cw1, .slice AP1 nP1 cp1, .bool s1, .slice A1 k1 c1, .slice B1 m1 d1])
    replace HB := Lib.hid (bthen HB.out hbw HB.out.size)
    replace HG := Lib.hid (HG.out.keep hbw)
    replace HO1 := Lib.hid (OfE.new HO1.out hbw)
    clear hbw
    generalize w3.alloc (.cells #[.slice AW1 mW1 cw1, .slice AP1 nP1 cp1, .bool s1, .slice A1 k1 c1, .slice B1 m1 d1] 33) = w4 at *
    obtain ⟨g7, hg7⟩ : ∃ g7, g7 = w3.heap.size := ⟨_, rfl⟩
    rw [← hg7] at H7 ⊢
    have HGg7 := Lib.hid (show w3.heap.size ≤ g7 from by omega)
    clear hg7
    have x0 := Blk.at0 HG.out (Below.refl _ _); have x1 := Blk.at1 HG.out (Below.refl _ _)
    go_wp2_with fail
    refine (cvof_any n (b) len ce AE es w4 ((HE0.out.below HB.out).more HB.out.size) HAB.out.2 HGr.out.1).mono ?_
    rintro e w5 ⟨v, rfl, hv, hb⟩
    obtain ⟨z2, AW2, mW2, cw2, AP2, nP2, cp2, s2, A2, k2, c2, B2, m2, d2, rfl, ho⟩ := hv.get
    clear hv x0 x1
    have HO2 := Lib.hid ho; clear ho
    replace HB := Lib.hid (bthen HB.out hb HB.out.size)
    replace HG := Lib.hid (HG.out.keep hb)
    replace HO1 := Lib.hid (OfE.new HO1.out hb)
    replace H7 := Lib.hid (H7.out.keep hb)
    clear hb
    go_upto_region 5 with (fail)
    have hbw := al w5 (.cells #[.slice AW2 mW2 cw2, .slice AP2 nP2 cp2, .bool s2, .slice A2 k2 c2, .slice B2 m2 d2] 33)
    have H9 := Lib.hid (Blk.new w5 33 #[.slice AW2 mW2 cw2, .slice AP2 nP2 cp2, .bool s2, .slice A2 k2 c2, .slice B2 m2 d2])
    replace HB := Lib.hid (bthen HB.out hbw HB.out.size)
    replace HG := Lib.hid (HG.out.keep hbw)
    replace HO1 := Lib.hid (OfE.new HO1.out hbw)
    replace H7 := Lib.hid (H7.out.keep hbw)
    replace HO2 := Lib.hid (OfE.new HO2.out hbw)
    clear hbw
    generalize w5.alloc (.cells #[.slice AW2 mW2 cw2, .slice AP2 nP2 cp2, .bool s2, .slice A2 k2 c2, .slice B2 m2 d2] 33) = w6 at *
    obtain ⟨g9, hg9⟩ : ∃ g9, g9 = w5.heap.size := ⟨_, rfl⟩
    rw [← hg9] at H9 ⊢
    have HGg9 := Lib.hid (show w5.heap.size ≤ g9 from by omega)
    clear hg9
    obtain ⟨ab, hab⟩ : ∃ ab, ab = a ||| b := ⟨_, rfl⟩
    have HOr := Lib.hid hab
    have x0 := Blk.at0 HG.out (Below.refl _ _); have x1 := Blk.at1 HG.out (Below.refl _ _)
    have eor := bits_or a b HAB.out.1 HAB.out.2
    rw [← hab] at eor
    have hab32 : ab < 4294967296 := by rw [hab]; exact Nat.or_lt_two_pow (n := 32) HAB.out.1 HAB.out.2
    clear hab
    go_wp2_with fail
    refine (cvof_any n ab len ce AE es w6 ((HE0.out.below HB.out).more HB.out.size) hab32 HGr.out.1).mono ?_
    rintro e w7 ⟨v, rfl, hv, hb⟩
    clear x0 x1 eor hab32
    replace HB := Lib.hid (bthen HB.out hb HB.out.size)
    replace HG := Lib.hid (HG.out.keep hb)
    replace HO1 := Lib.hid (OfE.new HO1.out hb)
    replace H7 := Lib.hid (H7.out.keep hb)
    replace HO2 := Lib.hid (OfE.new HO2.out hb)
    replace H9 := Lib.hid (H9.out.keep hb)
    clear hb
    have hv2 := hv
    obtain ⟨z3, AW3, mW3, cw3, AP3, nP3, cp3, s3, A3, k3, c3, B3, m3, d3, rfl, ho⟩ := hv.get
    have HO3 := Lib.hid ho; have HV2 := Lib.hid hv2; clear ho hv hv2
    have HZ3 := Lib.hid (show z1 = 0 → z2 = 0 → z3 = 0 from fun e1 e2 => by
      obtain ⟨p1, p2, p3, -⟩ := HO1.out e1
      obtain ⟨-, q2, q3, -⟩ := HO2.out e2
      obtain ⟨u, e, -⟩ := HV2.out.2.2.2 p1 (by rw [HOr.out]; exact andn_or0 p2 q2) (by rw [HOr.out]; exact andn_or0 p3 q3)
      simp at e; exact e.2)
    clear HV2
    go_upto_region 6 with (fail)
    have hbw := al w7 (.cells #[.slice AW3 mW3 cw3, .slice AP3 nP3 cp3, .bool s3, .slice A3 k3 c3, .slice B3 m3 d3] 33)
    have H11 := Lib.hid (Blk.new w7 33 #[.slice AW3 mW3 cw3, .slice AP3 nP3 cp3, .bool s3, .slice A3 k3 c3, .slice B3 m3 d3])
    replace HB := Lib.hid (bthen HB.out hbw HB.out.size)
    replace HG := Lib.hid (HG.out.keep hbw)
    replace HO1 := Lib.hid (OfE.new HO1.out hbw)
    replace H7 := Lib.hid (H7.out.keep hbw)
    replace HO2 := Lib.hid (OfE.new HO2.out hbw)
    replace H9 := Lib.hid (H9.out.keep hbw)
    replace HO3 := Lib.hid (OfE.new HO3.out hbw)
    clear hbw
    generalize w7.alloc (.cells #[.slice AW3 mW3 cw3, .slice AP3 nP3 cp3, .bool s3, .slice A3 k3 c3, .slice B3 m3 d3] 33) = w8 at *
    obtain ⟨g11, hg11⟩ : ∃ g11, g11 = w7.heap.size := ⟨_, rfl⟩
    rw [← hg11] at H11 ⊢
    have HGg11 := Lib.hid (show w7.heap.size ≤ g11 from by omega)
    clear hg11
    by_cases hz1 : z1 = 0
    rotate_left
    · have t0 : (z1 != 0) = true := by simpa using hz1
      go_wp2_with fail
      refine (awake29_any _).mono ?_
      rintro e w9 ⟨rfl, hb⟩
      go_wp2_with fail
      go_ret
      exact ⟨rfl, bthen HB.out hb HB.out.size⟩
    subst hz1
    by_cases hz2 : z2 = 0
    rotate_left
    · have t0 : (z2 != 0) = true := by simpa using hz2
      go_wp2_with fail
      refine (awake29_any _).mono ?_
      rintro e w9 ⟨rfl, hb⟩
      go_wp2_with fail
      go_ret
      exact ⟨rfl, bthen HB.out hb HB.out.size⟩
    subst hz2
    obtain rfl := HZ3.out rfl rfl
    clear HZ3
    obtain ⟨-, -, -, W1, P1, q1, rfl, rfl, ok1, -, -, hv1⟩ := HO1.out rfl
    obtain ⟨-, -, -, W2, P2, q2, rfl, rfl, ok2, -, -, hv2⟩ := HO2.out rfl
    obtain ⟨-, -, -, W3, P3, q3, rfl, rfl, ok3, -, -, hv3⟩ := HO3.out rfl
    rw [HOr.out] at ok3
    obtain ⟨l1, l2, l3⟩ := CovOK.union ok1 ok2 ok3
    have HL1 := Lib.hid l1; have HL2 := Lib.hid l2; have HL3 := Lib.hid l3; have HV1 := Lib.hid hv1; have HV2 := Lib.hid hv2; have HV3 := Lib.hid hv3
    clear l1 l2 l3 hv1 hv2 hv3 ok1 ok2 ok3 HO1 HO2 HO3
    go_upto_region 8 with (fail)
    refine wp_region_each (kss := [[], [(0, 43)], [(1, 44)], [(2, 45)], [(2, 45), (3, 46)], [(2, 45)], [(2, 45), (5, 48)], [(2, 45), (4, 47), (6, 49)], [(2, 45), (7, 50)], [(2, 45), (8, 51)], [(9, 52)], [(10, 53)], [(10, 53), (11, 54)], [(10, 53)], [(10, 53), (13, 56)], [(10, 53), (12, 55), (14, 57)], [(10, 53), (15, 58)], [(10, 53), (16, 59)], [(17, 60)], [(18, 61)], [(18, 61), (19, 62)], [(18, 61)], [(18, 61), (21, 64)], [(18, 61)], [(18, 61), (23, 66)], [(18, 61), (22, 65), (24, 67)], [(18, 61), (20, 63), (25, 68)], [(18, 61), (26, 69)], [(18, 61), (27, 70)], [(28, 71)], [(29, 72)], [(29, 72), (30, 73)], [(31, 74)]]) [(12, .int .i64 0), (7, .pointer (some ⟨g7, 0, none⟩)), (11, .pointer (some ⟨g11, 0, none⟩)), (9, .pointer (some ⟨g9, 0, none⟩))] [EV (.int .i64 0), EV (.bool true), EV (.bool true), EV (.pointer (some ⟨g7, 2, none⟩)), Rw (60) (q1), EV (.pointer (some ⟨g11, 2, none⟩)), Rw (60) (q3), EV (.int .i64 (rcq q1 q3)), EV (.bool true), EV (.bool true), EV (.bool true), EV (.pointer (some ⟨g9, 2, none⟩)), Rw (60) (q2), EV (.pointer (some ⟨g11, 2, none⟩)), Rw (60) (q3), EV (.int .i64 (rcq q2 q3)), EV (.bool true), EV (.bool true), EV (.bool true), EV (.pointer (some ⟨g11, 2, none⟩)), Rw (60) (q3), EV (.pointer (some ⟨g7, 2, none⟩)), Rw (60) (q1), EV (.pointer (some ⟨g9, 2, none⟩)), Rw (60) (q2), Rv (60 + 60 + 1) (q1 + q2), EV (.int .i64 (rcq q3 (q1 + q2))), EV (.bool true), EV (.bool true), EV (.bool true), EV (.bool true), EV (.bool true), EV (.bool true)] (by kernel_rfl) (by kernel_rfl) ⟨rfl, rfl, rfl, rfl, trivial⟩ ?_ ?_ ?_
    · exact ⟨eI, eI, eI, eI, fun _ _ _ h hb => h.new hb, eI, fun _ _ _ h hb => h.new hb, eI, eI, eI, eI, eI, fun _ _ _ h hb => h.new hb, eI, fun _ _ _ h hb => h.new hb, eI, eI, eI, eI, eI, fun _ _ _ h hb => h.new hb, eI, fun _ _ _ h hb => h.new hb, eI, fun _ _ _ h hb => h.new hb, fun _ _ _ h hb => h.new hb, eI, eI, eI, eI, eI, eI, eI, trivial⟩
    · refine ⟨?_, ?_, ?_, ?_, ?_, ?_, ?_, ?_, ?_, ?_, ?_, ?_, ?_, ?_, ?_, ?_, ?_, ?_, ?_, ?_, ?_, ?_, ?_, ?_, ?_, ?_, ?_, ?_, ?_, ?_, ?_, ?_, ?_, trivial⟩
      · exact fun _ _ _ he hd => ob_mv rfl rfl he.1
      · exact fun aa ww hb he hd => ob_plain rfl (gives_eq_int 0 0 .i64 _ _ _ _ rfl hd.1 rfl ⟨congrArg Value.bool (by decide), Below.refl _ _⟩)
      · exact fun _ _ _ he hd => ob_mv rfl rfl hd.1
      · exact fun aa ww hb he hd => ob_on 45 rfl (by kernel_rfl) hd.1 (fld_cov (k := 2) rfl (by decide) he.2.1)
      · exact fun aa ww hb he hd => ob_on 45 rfl (by kernel_rfl) hd.1 (load_cvv rfl hd.2.1 (Blk.keep H7.out hb) (Rw.new HV1.out hb))
      · exact fun aa ww hb he hd => ob_on 45 rfl (by kernel_rfl) hd.1 (fld_cov (k := 2) rfl (by decide) he.2.2.1)
      · exact fun aa ww hb he hd => ob_on 45 rfl (by kernel_rfl) hd.1 (load_cvv rfl hd.2.1 (Blk.keep H11.out hb) (Rw.new HV3.out hb))
      · exact fun aa ww hb he hd => ob_on 45 rfl (by kernel_rfl) hd.1 (gives_call2 _ _ _ _ rfl (by kernel_rfl) (cmp_v (hd.2.1) (hd.2.2.1) (by omega)))
      · exact fun aa ww hb he hd => ob_on 45 rfl (by kernel_rfl) hd.1 (gives_le_int (rcq q1 q3) 0 .i64 _ _ _ _ rfl hd.2.1 rfl ⟨congrArg Value.bool (cv_led HL1.out), Below.refl _ _⟩)
      · exact fun aa ww hb he hd => ob_plain rfl (gives_pick true _ _ _ rfl hd.1 ⟨hd.2.1, Below.refl _ _⟩)
      · exact fun _ _ _ he hd => ob_mv rfl rfl hd.1
      · exact fun aa ww hb he hd => ob_on 53 rfl (by kernel_rfl) hd.1 (fld_cov (k := 2) rfl (by decide) he.2.2.2.1)
      · exact fun aa ww hb he hd => ob_on 53 rfl (by kernel_rfl) hd.1 (load_cvv rfl hd.2.1 (Blk.keep H9.out hb) (Rw.new HV2.out hb))
      · exact fun aa ww hb he hd => ob_on 53 rfl (by kernel_rfl) hd.1 (fld_cov (k := 2) rfl (by decide) he.2.2.1)
      · exact fun aa ww hb he hd => ob_on 53 rfl (by kernel_rfl) hd.1 (load_cvv rfl hd.2.1 (Blk.keep H11.out hb) (Rw.new HV3.out hb))
      · exact fun aa ww hb he hd => ob_on 53 rfl (by kernel_rfl) hd.1 (gives_call2 _ _ _ _ rfl (by kernel_rfl) (cmp_v (hd.2.1) (hd.2.2.1) (by omega)))
      · exact fun aa ww hb he hd => ob_on 53 rfl (by kernel_rfl) hd.1 (gives_le_int (rcq q2 q3) 0 .i64 _ _ _ _ rfl hd.2.1 rfl ⟨congrArg Value.bool (cv_led HL2.out), Below.refl _ _⟩)
      · exact fun aa ww hb he hd => ob_plain rfl (gives_pick true _ _ _ rfl hd.1 ⟨hd.2.1, Below.refl _ _⟩)
      · exact fun _ _ _ he hd => ob_mv rfl rfl hd.1
      · exact fun aa ww hb he hd => ob_on 61 rfl (by kernel_rfl) hd.1 (fld_cov (k := 2) rfl (by decide) he.2.2.1)
      · exact fun aa ww hb he hd => ob_on 61 rfl (by kernel_rfl) hd.1 (load_cvv rfl hd.2.1 (Blk.keep H11.out hb) (Rw.new HV3.out hb))
      · exact fun aa ww hb he hd => ob_on 61 rfl (by kernel_rfl) hd.1 (fld_cov (k := 2) rfl (by decide) he.2.1)
      · exact fun aa ww hb he hd => ob_on 61 rfl (by kernel_rfl) hd.1 (load_cvv rfl hd.2.1 (Blk.keep H7.out hb) (Rw.new HV1.out hb))
      · exact fun aa ww hb he hd => ob_on 61 rfl (by kernel_rfl) hd.1 (fld_cov (k := 2) rfl (by decide) he.2.2.2.1)
      · exact fun aa ww hb he hd => ob_on 61 rfl (by kernel_rfl) hd.1 (load_cvv rfl hd.2.1 (Blk.keep H9.out hb) (Rw.new HV2.out hb))
      · exact fun aa ww hb he hd => ob_on 61 rfl (by kernel_rfl) hd.1 (gives_call2 _ _ _ _ rfl (by kernel_rfl) (add_v (hd.2.1) (hd.2.2.1) (by omega)))
      · exact fun aa ww hb he hd => ob_on 61 rfl (by kernel_rfl) hd.1 (gives_call2 _ _ _ _ rfl (by kernel_rfl) (cmp_v (hd.2.1) (hd.2.2.1.rw) (by omega)))
      · exact fun aa ww hb he hd => ob_on 61 rfl (by kernel_rfl) hd.1 (gives_le_int (rcq q3 (q1 + q2)) 0 .i64 _ _ _ _ rfl hd.2.1 rfl ⟨congrArg Value.bool (cv_led HL3.out), Below.refl _ _⟩)
      · exact fun aa ww hb he hd => ob_plain rfl (gives_pick true _ _ _ rfl hd.1 ⟨hd.2.1, Below.refl _ _⟩)
      · exact fun _ _ _ he hd => ob_mv rfl rfl hd.1
      · exact fun aa ww hb he hd => ob_on 72 rfl (by kernel_rfl) hd.1 (gives_call0 _ _ rfl (by kernel_rfl) (rv_one (awake29_any _)))
      · exact fun aa ww hb he hd => ob_plain rfl (gives_pick true _ _ _ rfl hd.1 ⟨hd.2.1, Below.refl _ _⟩)
      · exact fun aa ww hb he hd => ob_plain rfl (gives_assign _ rfl ⟨hd.1, Below.refl _ _⟩)
    intro vs w9 hb hR
    have e6 : vs 32 = .bool true := hR 32 (by decide)
    clear hR
    simp only [putsL, Nat.zero_add, Nat.reduceAdd, List.take_succ_cons, List.take_zero, Act.put, List.setIfInBounds_toArray, List.set_cons_zero, List.set_cons_succ]
    rw [e6]
    clear e6
    replace HB := Lib.hid (bthen HB.out hb HB.out.size)
    replace HG := Lib.hid (HG.out.keep hb)
    replace H7 := Lib.hid (H7.out.keep hb)
    replace H9 := Lib.hid (H9.out.keep hb)
    replace H11 := Lib.hid (H11.out.keep hb)
    replace HV1 := Lib.hid (HV1.out.new hb)
    replace HV2 := Lib.hid (HV2.out.new hb)
    replace HV3 := Lib.hid (HV3.out.new hb)
    clear hb
    go_wp2_with fail
    go_ret
    exact ⟨rfl, HB.out⟩
theorem coverSubsets_walk (n : Int) (AE : Option Addr) (es : List Nat) (len ce : Nat) (x y : Int) (w : World) (hE : Es w w.heap.size AE len es) (wn : -9223372036854775808 ≤ n ∧ n ≤ 9223372036854775807) (hcap : len ≤ ce) (wx : 0 ≤ x ∧ x ≤ 4294967295) (wy : 0 ≤ y ∧ y ≤ 4294967295) :
    Calls Try.prog 3 #[.agg #[.int .i64 n, .slice AE len ce], .int .u32 x, .int .u32 y] w fun e w' => e = .returned (.bool true) ∧ Below w.heap.size w w' := by
  obtain ⟨a, rfl⟩ : ∃ a : Nat, x = (a : Int) := ⟨x.toNat, by omega⟩
  obtain ⟨b, rfl⟩ : ∃ b : Nat, y = (b : Int) := ⟨y.toNat, by omega⟩
  exact subsets_any n len ce a b AE es w hE (by omega) (by omega)
end Go.Proofs.Ytpnklmgfdihjfaa
