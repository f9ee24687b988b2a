/-
  The walk of NatArithmetic.
-/
import Derived.Test.YtnpokifmknepoaaNLaw
namespace Go.Proofs.Ytnpokifmknepoaa
open Go.RowKit

theorem PB20 : PB 20 ≤ 10 ^ 200 := by
  have h := ten_ten 20
  exact h
theorem dn_200 {w : World} {A : Option Addr} {k c N : Nat} (h : DN w A k c N) (hN : N < PB 20) : k ≤ 200 := h.len (Nat.lt_of_lt_of_le hN PB20)
section
variable (A B : Option Addr) (n m c d : Nat) (w : World)
set_option maxHeartbeats 4000000 in
theorem arith_far (h1 : n ≤ 9223372036854775807) (h2 : m ≤ 9223372036854775807) (h : 20 < n ∨ 20 < m) :
    Calls Try.prog 6 #[.slice A n c, .slice B m d] w fun e w' => e = .returned (.bool true) ∧ Below w.heap.size w w' := by
  have HAB := Lib.hid h; clear h
  go_enter Try.func6, Try.ntmps6
  go_wp2_with fail
  refine (awake_any _).mono ?_
  rintro e w1 ⟨rfl, hb⟩
  have HW := Lib.hid hb; clear hb
  go_wp2_with fail
  refine (great_yes _ h1 h2 HAB.out).mono ?_
  rintro e w2 ⟨rfl, rfl⟩
  go_wp2_with fail
  go_ret
  exact ⟨rfl, HW.out⟩

set_option maxHeartbeats 8000000 in
theorem arith_ltp (N M : Nat) (ha : Num w A n c 20 N) (hb : Num w B m d 20 M) (h1 : n ≤ 20) (h2 : m ≤ 20) (hlt : N < M) (hz : M ≠ 0) :
    Calls Try.prog 6 #[.slice A n c, .slice B m d] w fun e w' => e = .returned (.bool true) ∧ Below w.heap.size w w' := by
  have hN := ha.2.2.2.1; have hM := hb.2.2.2.1
  have HN := Lib.hid hN; have HM := Lib.hid hM; clear hN hM
  have HA := Lib.hid ha; have HB := Lib.hid hb; clear ha hb
  have HLT := Lib.hid hlt; clear hlt
  have HZ := Lib.hid hz; clear hz
  go_enter Try.func6, Try.ntmps6
  go_wp2_with fail
  refine (awake_any _).mono ?_
  rintro e w1 ⟨rfl, hb⟩
  replace HA := Lib.hid (HA.out.new hb)
  replace HB := Lib.hid (HB.out.new hb)
  have HW := Lib.hid hb; clear hb
  go_wp2_with fail
  refine (great_no _ h1 h2).mono ?_
  rintro e w2 ⟨rfl, rfl⟩
  go_wp2_with fail
  refine (of_d HA.out).mono ?_
  rintro e w11 ⟨A11, k11, c11, rfl, h11, hb⟩
  replace HA := Lib.hid (HA.out.new hb)
  replace HB := Lib.hid (HB.out.new hb)
  replace HW := Lib.hid (bthen HW.out hb HW.out.size)
  have HX := Lib.hid h11; clear h11
  clear hb
  have hkx := dn_200 HX.out HN.out
  go_wp2_with fail
  refine (of_d HB.out).mono ?_
  rintro e w12 ⟨A12, k12, c12, rfl, h12, hb⟩
  replace HA := Lib.hid (HA.out.new hb)
  replace HB := Lib.hid (HB.out.new hb)
  replace HX := Lib.hid (HX.out.new hb)
  replace HW := Lib.hid (bthen HW.out hb HW.out.size)
  have HY := Lib.hid h12; clear h12
  clear hb
  have hky := dn_200 HY.out HM.out
  go_wp2_with fail
  refine (sub_n HA.out HB.out (by omega)).mono ?_
  rintro e w13 ⟨hs, -⟩
  obtain ⟨rfl, hb⟩ := hs HLT.out
  replace HA := Lib.hid (HA.out.new hb)
  replace HB := Lib.hid (HB.out.new hb)
  replace HX := Lib.hid (HX.out.new hb)
  replace HY := Lib.hid (HY.out.new hb)
  replace HW := Lib.hid (bthen HW.out hb HW.out.size)
  clear hb
  clear hs
  go_wp2_with fail
  refine (rsub_any _ _ _ N _ _ _ M _ HX.out HY.out (by omega) (by omega)).mono ?_
  rintro e w14 ⟨hs, -⟩
  obtain ⟨rfl, hb⟩ := hs HLT.out
  replace HA := Lib.hid (HA.out.new hb)
  replace HB := Lib.hid (HB.out.new hb)
  replace HX := Lib.hid (HX.out.new hb)
  replace HY := Lib.hid (HY.out.new hb)
  replace HW := Lib.hid (bthen HW.out hb HW.out.size)
  clear hb
  clear hs
  go_wp2_with fail
  refine (add_n HA.out HB.out (by omega)).mono ?_
  rintro e w15 ⟨A15, k15, c15, rfl, h15, j15, hb⟩
  replace HA := Lib.hid (HA.out.new hb)
  replace HB := Lib.hid (HB.out.new hb)
  replace HX := Lib.hid (HX.out.new hb)
  replace HY := Lib.hid (HY.out.new hb)
  replace HW := Lib.hid (bthen HW.out hb HW.out.size)
  have HP := Lib.hid h15; clear h15
  have JP := Lib.hid j15; clear j15
  clear hb
  go_wp2_with fail
  refine (radd_any _ _ _ N _ _ _ M _ HX.out HY.out (by omega) (by omega)).mono ?_
  rintro e w16 ⟨A16, k16, c16, rfl, h16, hb⟩
  replace HA := Lib.hid (HA.out.new hb)
  replace HB := Lib.hid (HB.out.new hb)
  replace HX := Lib.hid (HX.out.new hb)
  replace HY := Lib.hid (HY.out.new hb)
  replace HP := Lib.hid (HP.out.new hb)
  replace JP := Lib.hid (JP.out.new hb)
  replace HW := Lib.hid (bthen HW.out hb HW.out.size)
  have HQ := Lib.hid h16; clear h16
  clear hb
  go_wp2_with fail
  refine (is_d HP.out JP.out HQ.out).mono ?_
  rintro e w17 ⟨rfl, hb⟩
  replace HA := Lib.hid (HA.out.new hb)
  replace HB := Lib.hid (HB.out.new hb)
  replace HX := Lib.hid (HX.out.new hb)
  replace HY := Lib.hid (HY.out.new hb)
  replace HP := Lib.hid (HP.out.new hb)
  replace JP := Lib.hid (JP.out.new hb)
  replace HQ := Lib.hid (HQ.out.new hb)
  replace HW := Lib.hid (bthen HW.out hb HW.out.size)
  clear hb
  clear HP JP HQ
  go_wp2_with fail
  refine (mul_n HA.out HB.out (by omega)).mono ?_
  rintro e w18 ⟨A18, k18, c18, rfl, h18, j18, hb⟩
  replace HA := Lib.hid (HA.out.new hb)
  replace HB := Lib.hid (HB.out.new hb)
  replace HX := Lib.hid (HX.out.new hb)
  replace HY := Lib.hid (HY.out.new hb)
  replace HW := Lib.hid (bthen HW.out hb HW.out.size)
  have HP := Lib.hid h18; clear h18
  have JP := Lib.hid j18; clear j18
  clear hb
  go_wp2_with fail
  refine (rmul_any _ _ _ N _ _ _ M _ HX.out HY.out (by omega) (by omega)).mono ?_
  rintro e w19 ⟨A19, k19, c19, rfl, h19, hb⟩
  replace HA := Lib.hid (HA.out.new hb)
  replace HB := Lib.hid (HB.out.new hb)
  replace HX := Lib.hid (HX.out.new hb)
  replace HY := Lib.hid (HY.out.new hb)
  replace HP := Lib.hid (HP.out.new hb)
  replace JP := Lib.hid (JP.out.new hb)
  replace HW := Lib.hid (bthen HW.out hb HW.out.size)
  have HQ := Lib.hid h19; clear h19
  clear hb
  go_wp2_with fail
  refine (is_d HP.out JP.out HQ.out).mono ?_
  rintro e w20 ⟨rfl, hb⟩
  replace HA := Lib.hid (HA.out.new hb)
  replace HB := Lib.hid (HB.out.new hb)
  replace HX := Lib.hid (HX.out.new hb)
  replace HY := Lib.hid (HY.out.new hb)
  replace HP := Lib.hid (HP.out.new hb)
  replace JP := Lib.hid (JP.out.new hb)
  replace HQ := Lib.hid (HQ.out.new hb)
  replace HW := Lib.hid (bthen HW.out hb HW.out.size)
  clear hb
  clear HP JP HQ
  go_wp2_with fail
  refine (dm_n HA.out HB.out (by omega) (by omega)).mono ?_
  rintro e w21 ⟨-, hs⟩
  obtain ⟨A21, k21, c21, B21, m21, d21, rfl, ⟨h21, j21⟩, ⟨h21r, j21r⟩, hb⟩ := hs HZ.out
  replace HA := Lib.hid (HA.out.new hb)
  replace HB := Lib.hid (HB.out.new hb)
  replace HX := Lib.hid (HX.out.new hb)
  replace HY := Lib.hid (HY.out.new hb)
  replace HW := Lib.hid (bthen HW.out hb HW.out.size)
  clear hb
  clear hs
  have HD := Lib.hid h21; have JD := Lib.hid j21; have HE := Lib.hid h21r; have JE := Lib.hid j21r; clear h21 j21 h21r j21r
  have hy0 : k12 ≠ 0 := fun h => HZ.out (HY.out.zero.1 h)
  have ty : ((k12 : Int) == 0) = false := by simp; omega
  clear hy0
  go_wp2_with fail
  refine (rdm_any _ _ _ N _ _ _ M _ HX.out HY.out (by omega) (by omega) (Nat.pos_of_ne_zero HZ.out)).mono ?_
  rintro e w22 ⟨A22, k22, c22, B22, m22, d22, rfl, h22, g22, hb⟩
  replace HA := Lib.hid (HA.out.new hb)
  replace HB := Lib.hid (HB.out.new hb)
  replace HX := Lib.hid (HX.out.new hb)
  replace HY := Lib.hid (HY.out.new hb)
  replace HD := Lib.hid (HD.out.new hb)
  replace JD := Lib.hid (JD.out.new hb)
  replace HE := Lib.hid (HE.out.new hb)
  replace JE := Lib.hid (JE.out.new hb)
  replace HW := Lib.hid (bthen HW.out hb HW.out.size)
  have HF := Lib.hid h22; clear h22
  have HG := Lib.hid g22; clear g22
  clear hb
  go_wp2_with fail
  refine (is_d HD.out JD.out HF.out).mono ?_
  rintro e w23 ⟨rfl, hb⟩
  replace HA := Lib.hid (HA.out.new hb)
  replace HB := Lib.hid (HB.out.new hb)
  replace HX := Lib.hid (HX.out.new hb)
  replace HY := Lib.hid (HY.out.new hb)
  replace HD := Lib.hid (HD.out.new hb)
  replace JD := Lib.hid (JD.out.new hb)
  replace HE := Lib.hid (HE.out.new hb)
  replace JE := Lib.hid (JE.out.new hb)
  replace HF := Lib.hid (HF.out.new hb)
  replace HG := Lib.hid (HG.out.new hb)
  replace HW := Lib.hid (bthen HW.out hb HW.out.size)
  clear hb
  go_wp2_with fail
  refine (is_d HE.out JE.out HG.out).mono ?_
  rintro e w24 ⟨rfl, hb⟩
  replace HA := Lib.hid (HA.out.new hb)
  replace HB := Lib.hid (HB.out.new hb)
  replace HX := Lib.hid (HX.out.new hb)
  replace HY := Lib.hid (HY.out.new hb)
  replace HD := Lib.hid (HD.out.new hb)
  replace JD := Lib.hid (JD.out.new hb)
  replace HE := Lib.hid (HE.out.new hb)
  replace JE := Lib.hid (JE.out.new hb)
  replace HF := Lib.hid (HF.out.new hb)
  replace HG := Lib.hid (HG.out.new hb)
  replace HW := Lib.hid (bthen HW.out hb HW.out.size)
  clear hb
  go_wp2_with fail
  go_ret
  exact ⟨rfl, HW.out⟩

set_option maxHeartbeats 8000000 in
theorem arith_lez (N M : Nat) (ha : Num w A n c 20 N) (hb : Num w B m d 20 M) (h1 : n ≤ 20) (h2 : m ≤ 20) (hle : M ≤ N) (hz : M = 0) :
    Calls Try.prog 6 #[.slice A n c, .slice B m d] w fun e w' => e = .returned (.bool true) ∧ Below w.heap.size w w' := by
  have hN := ha.2.2.2.1; have hM := hb.2.2.2.1
  have HN := Lib.hid hN; have HM := Lib.hid hM; clear hN hM
  have HA := Lib.hid ha; have HB := Lib.hid hb; clear ha hb
  have HLT := Lib.hid hle; clear hle
  have HZ := Lib.hid hz; clear hz
  go_enter Try.func6, Try.ntmps6
  go_wp2_with fail
  refine (awake_any _).mono ?_
  rintro e w1 ⟨rfl, hb⟩
  replace HA := Lib.hid (HA.out.new hb)
  replace HB := Lib.hid (HB.out.new hb)
  have HW := Lib.hid hb; clear hb
  go_wp2_with fail
  refine (great_no _ h1 h2).mono ?_
  rintro e w2 ⟨rfl, rfl⟩
  go_wp2_with fail
  refine (of_d HA.out).mono ?_
  rintro e w11 ⟨A11, k11, c11, rfl, h11, hb⟩
  replace HA := Lib.hid (HA.out.new hb)
  replace HB := Lib.hid (HB.out.new hb)
  replace HW := Lib.hid (bthen HW.out hb HW.out.size)
  have HX := Lib.hid h11; clear h11
  clear hb
  have hkx := dn_200 HX.out HN.out
  go_wp2_with fail
  refine (of_d HB.out).mono ?_
  rintro e w12 ⟨A12, k12, c12, rfl, h12, hb⟩
  replace HA := Lib.hid (HA.out.new hb)
  replace HB := Lib.hid (HB.out.new hb)
  replace HX := Lib.hid (HX.out.new hb)
  replace HW := Lib.hid (bthen HW.out hb HW.out.size)
  have HY := Lib.hid h12; clear h12
  clear hb
  have hky := dn_200 HY.out HM.out
  go_wp2_with fail
  refine (sub_n HA.out HB.out (by omega)).mono ?_
  rintro e w13 ⟨-, hs⟩
  obtain ⟨A13, k13, c13, rfl, h13, j13, hb⟩ := hs HLT.out
  replace HA := Lib.hid (HA.out.new hb)
  replace HB := Lib.hid (HB.out.new hb)
  replace HX := Lib.hid (HX.out.new hb)
  replace HY := Lib.hid (HY.out.new hb)
  replace HW := Lib.hid (bthen HW.out hb HW.out.size)
  clear hb
  have HS := Lib.hid h13; have JS := Lib.hid j13; clear h13 j13
  clear hs
  go_wp2_with fail
  refine (rsub_any _ _ _ N _ _ _ M _ HX.out HY.out (by omega) (by omega)).mono ?_
  rintro e w14 ⟨-, hs⟩
  obtain ⟨A14, k14, c14, rfl, h14, hb⟩ := hs HLT.out
  replace HA := Lib.hid (HA.out.new hb)
  replace HB := Lib.hid (HB.out.new hb)
  replace HX := Lib.hid (HX.out.new hb)
  replace HY := Lib.hid (HY.out.new hb)
  replace HS := Lib.hid (HS.out.new hb)
  replace JS := Lib.hid (JS.out.new hb)
  replace HW := Lib.hid (bthen HW.out hb HW.out.size)
  clear hb
  have HT := Lib.hid h14; clear h14
  clear hs
  go_wp2_with fail
  refine (add_n HA.out HB.out (by omega)).mono ?_
  rintro e w15 ⟨A15, k15, c15, rfl, h15, j15, hb⟩
  replace HA := Lib.hid (HA.out.new hb)
  replace HB := Lib.hid (HB.out.new hb)
  replace HX := Lib.hid (HX.out.new hb)
  replace HY := Lib.hid (HY.out.new hb)
  replace HS := Lib.hid (HS.out.new hb)
  replace JS := Lib.hid (JS.out.new hb)
  replace HT := Lib.hid (HT.out.new hb)
  replace HW := Lib.hid (bthen HW.out hb HW.out.size)
  have HP := Lib.hid h15; clear h15
  have JP := Lib.hid j15; clear j15
  clear hb
  go_wp2_with fail
  refine (radd_any _ _ _ N _ _ _ M _ HX.out HY.out (by omega) (by omega)).mono ?_
  rintro e w16 ⟨A16, k16, c16, rfl, h16, hb⟩
  replace HA := Lib.hid (HA.out.new hb)
  replace HB := Lib.hid (HB.out.new hb)
  replace HX := Lib.hid (HX.out.new hb)
  replace HY := Lib.hid (HY.out.new hb)
  replace HS := Lib.hid (HS.out.new hb)
  replace JS := Lib.hid (JS.out.new hb)
  replace HT := Lib.hid (HT.out.new hb)
  replace HP := Lib.hid (HP.out.new hb)
  replace JP := Lib.hid (JP.out.new hb)
  replace HW := Lib.hid (bthen HW.out hb HW.out.size)
  have HQ := Lib.hid h16; clear h16
  clear hb
  go_wp2_with fail
  refine (is_d HP.out JP.out HQ.out).mono ?_
  rintro e w17 ⟨rfl, hb⟩
  replace HA := Lib.hid (HA.out.new hb)
  replace HB := Lib.hid (HB.out.new hb)
  replace HX := Lib.hid (HX.out.new hb)
  replace HY := Lib.hid (HY.out.new hb)
  replace HS := Lib.hid (HS.out.new hb)
  replace JS := Lib.hid (JS.out.new hb)
  replace HT := Lib.hid (HT.out.new hb)
  replace HP := Lib.hid (HP.out.new hb)
  replace JP := Lib.hid (JP.out.new hb)
  replace HQ := Lib.hid (HQ.out.new hb)
  replace HW := Lib.hid (bthen HW.out hb HW.out.size)
  clear hb
  clear HP JP HQ
  go_wp2_with fail
  refine (mul_n HA.out HB.out (by omega)).mono ?_
  rintro e w18 ⟨A18, k18, c18, rfl, h18, j18, hb⟩
  replace HA := Lib.hid (HA.out.new hb)
  replace HB := Lib.hid (HB.out.new hb)
  replace HX := Lib.hid (HX.out.new hb)
  replace HY := Lib.hid (HY.out.new hb)
  replace HS := Lib.hid (HS.out.new hb)
  replace JS := Lib.hid (JS.out.new hb)
  replace HT := Lib.hid (HT.out.new hb)
  replace HW := Lib.hid (bthen HW.out hb HW.out.size)
  have HP := Lib.hid h18; clear h18
  have JP := Lib.hid j18; clear j18
  clear hb
  go_wp2_with fail
  refine (rmul_any _ _ _ N _ _ _ M _ HX.out HY.out (by omega) (by omega)).mono ?_
  rintro e w19 ⟨A19, k19, c19, rfl, h19, hb⟩
  replace HA := Lib.hid (HA.out.new hb)
  replace HB := Lib.hid (HB.out.new hb)
  replace HX := Lib.hid (HX.out.new hb)
  replace HY := Lib.hid (HY.out.new hb)
  replace HS := Lib.hid (HS.out.new hb)
  replace JS := Lib.hid (JS.out.new hb)
  replace HT := Lib.hid (HT.out.new hb)
  replace HP := Lib.hid (HP.out.new hb)
  replace JP := Lib.hid (JP.out.new hb)
  replace HW := Lib.hid (bthen HW.out hb HW.out.size)
  have HQ := Lib.hid h19; clear h19
  clear hb
  go_wp2_with fail
  refine (is_d HP.out JP.out HQ.out).mono ?_
  rintro e w20 ⟨rfl, hb⟩
  replace HA := Lib.hid (HA.out.new hb)
  replace HB := Lib.hid (HB.out.new hb)
  replace HX := Lib.hid (HX.out.new hb)
  replace HY := Lib.hid (HY.out.new hb)
  replace HS := Lib.hid (HS.out.new hb)
  replace JS := Lib.hid (JS.out.new hb)
  replace HT := Lib.hid (HT.out.new hb)
  replace HP := Lib.hid (HP.out.new hb)
  replace JP := Lib.hid (JP.out.new hb)
  replace HQ := Lib.hid (HQ.out.new hb)
  replace HW := Lib.hid (bthen HW.out hb HW.out.size)
  clear hb
  clear HP JP HQ
  go_wp2_with fail
  refine (is_d HS.out JS.out HT.out).mono ?_
  rintro e w21 ⟨rfl, hb⟩
  replace HA := Lib.hid (HA.out.new hb)
  replace HB := Lib.hid (HB.out.new hb)
  replace HX := Lib.hid (HX.out.new hb)
  replace HY := Lib.hid (HY.out.new hb)
  replace HS := Lib.hid (HS.out.new hb)
  replace JS := Lib.hid (JS.out.new hb)
  replace HT := Lib.hid (HT.out.new hb)
  replace HW := Lib.hid (bthen HW.out hb HW.out.size)
  clear hb
  clear HS JS HT
  go_wp2_with fail
  refine (dm_n HA.out HB.out (by omega) (by omega)).mono ?_
  rintro e w22 ⟨hs, -⟩
  obtain ⟨rfl, hb⟩ := hs HZ.out
  replace HA := Lib.hid (HA.out.new hb)
  replace HB := Lib.hid (HB.out.new hb)
  replace HX := Lib.hid (HX.out.new hb)
  replace HY := Lib.hid (HY.out.new hb)
  replace HW := Lib.hid (bthen HW.out hb HW.out.size)
  clear hb
  clear hs
  have hy0 := HY.out.zero.2 HZ.out
  have ty : ((k12 : Int) == 0) = true := by simp [hy0]
  clear hy0
  go_wp2_with fail
  go_ret
  exact ⟨rfl, HW.out⟩

set_option maxHeartbeats 8000000 in
theorem arith_lep (N M : Nat) (ha : Num w A n c 20 N) (hb : Num w B m d 20 M) (h1 : n ≤ 20) (h2 : m ≤ 20) (hle : M ≤ N) (hz : M ≠ 0) :
    Calls Try.prog 6 #[.slice A n c, .slice B m d] w fun e w' => e = .returned (.bool true) ∧ Below w.heap.size w w' := by
  have hN := ha.2.2.2.1; have hM := hb.2.2.2.1
  have HN := Lib.hid hN; have HM := Lib.hid hM; clear hN hM
  have HA := Lib.hid ha; have HB := Lib.hid hb; clear ha hb
  have HLT := Lib.hid hle; clear hle
  have HZ := Lib.hid hz; clear hz
  go_enter Try.func6, Try.ntmps6
  go_wp2_with fail
  refine (awake_any _).mono ?_
  rintro e w1 ⟨rfl, hb⟩
  replace HA := Lib.hid (HA.out.new hb)
  replace HB := Lib.hid (HB.out.new hb)
  have HW := Lib.hid hb; clear hb
  go_wp2_with fail
  refine (great_no _ h1 h2).mono ?_
  rintro e w2 ⟨rfl, rfl⟩
  go_wp2_with fail
  refine (of_d HA.out).mono ?_
  rintro e w11 ⟨A11, k11, c11, rfl, h11, hb⟩
  replace HA := Lib.hid (HA.out.new hb)
  replace HB := Lib.hid (HB.out.new hb)
  replace HW := Lib.hid (bthen HW.out hb HW.out.size)
  have HX := Lib.hid h11; clear h11
  clear hb
  have hkx := dn_200 HX.out HN.out
  go_wp2_with fail
  refine (of_d HB.out).mono ?_
  rintro e w12 ⟨A12, k12, c12, rfl, h12, hb⟩
  replace HA := Lib.hid (HA.out.new hb)
  replace HB := Lib.hid (HB.out.new hb)
  replace HX := Lib.hid (HX.out.new hb)
  replace HW := Lib.hid (bthen HW.out hb HW.out.size)
  have HY := Lib.hid h12; clear h12
  clear hb
  have hky := dn_200 HY.out HM.out
  go_wp2_with fail
  refine (sub_n HA.out HB.out (by omega)).mono ?_
  rintro e w13 ⟨-, hs⟩
  obtain ⟨A13, k13, c13, rfl, h13, j13, hb⟩ := hs HLT.out
  replace HA := Lib.hid (HA.out.new hb)
  replace HB := Lib.hid (HB.out.new hb)
  replace HX := Lib.hid (HX.out.new hb)
  replace HY := Lib.hid (HY.out.new hb)
  replace HW := Lib.hid (bthen HW.out hb HW.out.size)
  clear hb
  have HS := Lib.hid h13; have JS := Lib.hid j13; clear h13 j13
  clear hs
  go_wp2_with fail
  refine (rsub_any _ _ _ N _ _ _ M _ HX.out HY.out (by omega) (by omega)).mono ?_
  rintro e w14 ⟨-, hs⟩
  obtain ⟨A14, k14, c14, rfl, h14, hb⟩ := hs HLT.out
  replace HA := Lib.hid (HA.out.new hb)
  replace HB := Lib.hid (HB.out.new hb)
  replace HX := Lib.hid (HX.out.new hb)
  replace HY := Lib.hid (HY.out.new hb)
  replace HS := Lib.hid (HS.out.new hb)
  replace JS := Lib.hid (JS.out.new hb)
  replace HW := Lib.hid (bthen HW.out hb HW.out.size)
  clear hb
  have HT := Lib.hid h14; clear h14
  clear hs
  go_wp2_with fail
  refine (add_n HA.out HB.out (by omega)).mono ?_
  rintro e w15 ⟨A15, k15, c15, rfl, h15, j15, hb⟩
  replace HA := Lib.hid (HA.out.new hb)
  replace HB := Lib.hid (HB.out.new hb)
  replace HX := Lib.hid (HX.out.new hb)
  replace HY := Lib.hid (HY.out.new hb)
  replace HS := Lib.hid (HS.out.new hb)
  replace JS := Lib.hid (JS.out.new hb)
  replace HT := Lib.hid (HT.out.new hb)
  replace HW := Lib.hid (bthen HW.out hb HW.out.size)
  have HP := Lib.hid h15; clear h15
  have JP := Lib.hid j15; clear j15
  clear hb
  go_wp2_with fail
  refine (radd_any _ _ _ N _ _ _ M _ HX.out HY.out (by omega) (by omega)).mono ?_
  rintro e w16 ⟨A16, k16, c16, rfl, h16, hb⟩
  replace HA := Lib.hid (HA.out.new hb)
  replace HB := Lib.hid (HB.out.new hb)
  replace HX := Lib.hid (HX.out.new hb)
  replace HY := Lib.hid (HY.out.new hb)
  replace HS := Lib.hid (HS.out.new hb)
  replace JS := Lib.hid (JS.out.new hb)
  replace HT := Lib.hid (HT.out.new hb)
  replace HP := Lib.hid (HP.out.new hb)
  replace JP := Lib.hid (JP.out.new hb)
  replace HW := Lib.hid (bthen HW.out hb HW.out.size)
  have HQ := Lib.hid h16; clear h16
  clear hb
  go_wp2_with fail
  refine (is_d HP.out JP.out HQ.out).mono ?_
  rintro e w17 ⟨rfl, hb⟩
  replace HA := Lib.hid (HA.out.new hb)
  replace HB := Lib.hid (HB.out.new hb)
  replace HX := Lib.hid (HX.out.new hb)
  replace HY := Lib.hid (HY.out.new hb)
  replace HS := Lib.hid (HS.out.new hb)
  replace JS := Lib.hid (JS.out.new hb)
  replace HT := Lib.hid (HT.out.new hb)
  replace HP := Lib.hid (HP.out.new hb)
  replace JP := Lib.hid (JP.out.new hb)
  replace HQ := Lib.hid (HQ.out.new hb)
  replace HW := Lib.hid (bthen HW.out hb HW.out.size)
  clear hb
  clear HP JP HQ
  go_wp2_with fail
  refine (mul_n HA.out HB.out (by omega)).mono ?_
  rintro e w18 ⟨A18, k18, c18, rfl, h18, j18, hb⟩
  replace HA := Lib.hid (HA.out.new hb)
  replace HB := Lib.hid (HB.out.new hb)
  replace HX := Lib.hid (HX.out.new hb)
  replace HY := Lib.hid (HY.out.new hb)
  replace HS := Lib.hid (HS.out.new hb)
  replace JS := Lib.hid (JS.out.new hb)
  replace HT := Lib.hid (HT.out.new hb)
  replace HW := Lib.hid (bthen HW.out hb HW.out.size)
  have HP := Lib.hid h18; clear h18
  have JP := Lib.hid j18; clear j18
  clear hb
  go_wp2_with fail
  refine (rmul_any _ _ _ N _ _ _ M _ HX.out HY.out (by omega) (by omega)).mono ?_
  rintro e w19 ⟨A19, k19, c19, rfl, h19, hb⟩
  replace HA := Lib.hid (HA.out.new hb)
  replace HB := Lib.hid (HB.out.new hb)
  replace HX := Lib.hid (HX.out.new hb)
  replace HY := Lib.hid (HY.out.new hb)
  replace HS := Lib.hid (HS.out.new hb)
  replace JS := Lib.hid (JS.out.new hb)
  replace HT := Lib.hid (HT.out.new hb)
  replace HP := Lib.hid (HP.out.new hb)
  replace JP := Lib.hid (JP.out.new hb)
  replace HW := Lib.hid (bthen HW.out hb HW.out.size)
  have HQ := Lib.hid h19; clear h19
  clear hb
  go_wp2_with fail
  refine (is_d HP.out JP.out HQ.out).mono ?_
  rintro e w20 ⟨rfl, hb⟩
  replace HA := Lib.hid (HA.out.new hb)
  replace HB := Lib.hid (HB.out.new hb)
  replace HX := Lib.hid (HX.out.new hb)
  replace HY := Lib.hid (HY.out.new hb)
  replace HS := Lib.hid (HS.out.new hb)
  replace JS := Lib.hid (JS.out.new hb)
  replace HT := Lib.hid (HT.out.new hb)
  replace HP := Lib.hid (HP.out.new hb)
  replace JP := Lib.hid (JP.out.new hb)
  replace HQ := Lib.hid (HQ.out.new hb)
  replace HW := Lib.hid (bthen HW.out hb HW.out.size)
  clear hb
  clear HP JP HQ
  go_wp2_with fail
  refine (is_d HS.out JS.out HT.out).mono ?_
  rintro e w21 ⟨rfl, hb⟩
  replace HA := Lib.hid (HA.out.new hb)
  replace HB := Lib.hid (HB.out.new hb)
  replace HX := Lib.hid (HX.out.new hb)
  replace HY := Lib.hid (HY.out.new hb)
  replace HS := Lib.hid (HS.out.new hb)
  replace JS := Lib.hid (JS.out.new hb)
  replace HT := Lib.hid (HT.out.new hb)
  replace HW := Lib.hid (bthen HW.out hb HW.out.size)
  clear hb
  clear HS JS HT
  go_wp2_with fail
  refine (dm_n HA.out HB.out (by omega) (by omega)).mono ?_
  rintro e w22 ⟨-, hs⟩
  obtain ⟨A22, k22, c22, B22, m22, d22, rfl, ⟨h22, j22⟩, ⟨h22r, j22r⟩, hb⟩ := hs HZ.out
  replace HA := Lib.hid (HA.out.new hb)
  replace HB := Lib.hid (HB.out.new hb)
  replace HX := Lib.hid (HX.out.new hb)
  replace HY := Lib.hid (HY.out.new hb)
  replace HW := Lib.hid (bthen HW.out hb HW.out.size)
  clear hb
  clear hs
  have HD := Lib.hid h22; have JD := Lib.hid j22; have HE := Lib.hid h22r; have JE := Lib.hid j22r; clear h22 j22 h22r j22r
  have hy0 : k12 ≠ 0 := fun h => HZ.out (HY.out.zero.1 h)
  have ty : ((k12 : Int) == 0) = false := by simp; omega
  clear hy0
  go_wp2_with fail
  refine (rdm_any _ _ _ N _ _ _ M _ HX.out HY.out (by omega) (by omega) (Nat.pos_of_ne_zero HZ.out)).mono ?_
  rintro e w23 ⟨A23, k23, c23, B23, m23, d23, rfl, h23, g23, hb⟩
  replace HA := Lib.hid (HA.out.new hb)
  replace HB := Lib.hid (HB.out.new hb)
  replace HX := Lib.hid (HX.out.new hb)
  replace HY := Lib.hid (HY.out.new hb)
  replace HD := Lib.hid (HD.out.new hb)
  replace JD := Lib.hid (JD.out.new hb)
  replace HE := Lib.hid (HE.out.new hb)
  replace JE := Lib.hid (JE.out.new hb)
  replace HW := Lib.hid (bthen HW.out hb HW.out.size)
  have HF := Lib.hid h23; clear h23
  have HG := Lib.hid g23; clear g23
  clear hb
  go_wp2_with fail
  refine (is_d HD.out JD.out HF.out).mono ?_
  rintro e w24 ⟨rfl, hb⟩
  replace HA := Lib.hid (HA.out.new hb)
  replace HB := Lib.hid (HB.out.new hb)
  replace HX := Lib.hid (HX.out.new hb)
  replace HY := Lib.hid (HY.out.new hb)
  replace HD := Lib.hid (HD.out.new hb)
  replace JD := Lib.hid (JD.out.new hb)
  replace HE := Lib.hid (HE.out.new hb)
  replace JE := Lib.hid (JE.out.new hb)
  replace HF := Lib.hid (HF.out.new hb)
  replace HG := Lib.hid (HG.out.new hb)
  replace HW := Lib.hid (bthen HW.out hb HW.out.size)
  clear hb
  go_wp2_with fail
  refine (is_d HE.out JE.out HG.out).mono ?_
  rintro e w25 ⟨rfl, hb⟩
  replace HA := Lib.hid (HA.out.new hb)
  replace HB := Lib.hid (HB.out.new hb)
  replace HX := Lib.hid (HX.out.new hb)
  replace HY := Lib.hid (HY.out.new hb)
  replace HD := Lib.hid (HD.out.new hb)
  replace JD := Lib.hid (JD.out.new hb)
  replace HE := Lib.hid (HE.out.new hb)
  replace JE := Lib.hid (JE.out.new hb)
  replace HF := Lib.hid (HF.out.new hb)
  replace HG := Lib.hid (HG.out.new hb)
  replace HW := Lib.hid (bthen HW.out hb HW.out.size)
  clear hb
  go_wp2_with fail
  go_ret
  exact ⟨rfl, HW.out⟩
end
theorem natArithmetic_walk (A : Option Addr) (ds : List Nat) (n c : Nat) (B : Option Addr) (fs : List Nat) (m d : Nat) (w : World) (hr : Es w w.heap.size A n ds) (hc : n ≤ c) (hs : Es w w.heap.size B m fs) (hd : m ≤ d) :
    Calls Try.prog 6 #[.slice A n c, .slice B m d] w fun e w' => e = .returned (.bool true) ∧ Below w.heap.size w w' := by
  by_cases h : 20 < n ∨ 20 < m
  · exact arith_far A B n m c d w hr.le hs.le h
  · have ha := Num.of_es (b := 20) hr hc (by omega) (by omega) (by omega)
    have hb := Num.of_es (b := 20) hs hd (by omega) (by omega) (by omega)
    by_cases hlt : valB 4294967296 ds < valB 4294967296 fs
    · exact arith_ltp A B n m c d w _ _ ha hb (by omega) (by omega) hlt (by omega)
    · by_cases hz : valB 4294967296 fs = 0
      · exact arith_lez A B n m c d w _ _ ha hb (by omega) (by omega) (by omega) hz
      · exact arith_lep A B n m c d w _ _ ha hb (by omega) (by omega) (by omega) hz
end Go.Proofs.Ytnpokifmknepoaa
