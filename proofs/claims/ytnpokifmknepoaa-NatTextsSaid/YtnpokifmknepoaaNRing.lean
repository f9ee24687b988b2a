/-
  The walk of NatRing.
-/
import Derived.Test.YtnpokifmknepoaaNAwake
namespace Go.Proofs.Ytnpokifmknepoaa
open Go.RowKit

theorem great_no {A B : Option Addr} {n c m d : Nat} (w : World) (h1 : n ≤ 20) (h2 : m ≤ 20) : Calls Try.prog 11 #[.slice A n c, .slice B m d] w fun e w' => e = .returned (.bool false) ∧ w = w' := by
  have t1 : decide ((20 : Int) < (n : Int)) = false := by simp; omega
  have t2 : decide ((20 : Int) < (m : Int)) = false := by simp; omega
  go_enter Try.func11, Try.ntmps11
  go_wp2_with fail
  go_ret
  exact ⟨rfl, rfl⟩
theorem great_yes {A B : Option Addr} {n c m d : Nat} (w : World) (h1 : n ≤ 9223372036854775807) (h2 : m ≤ 9223372036854775807) (h : 20 < n ∨ 20 < m) : Calls Try.prog 11 #[.slice A n c, .slice B m d] w fun e w' => e = .returned (.bool true) ∧ w = w' := by
  by_cases h3 : 20 < n
  · clear h
    have t1 : decide ((20 : Int) < (n : Int)) = true := by simp; omega
    go_enter Try.func11, Try.ntmps11
    go_wp2_with fail
    go_ret
    exact ⟨rfl, rfl⟩
  · have h4 : 20 < m := by omega
    have t1 : decide ((20 : Int) < (n : Int)) = false := by simp; omega
    have t2 : decide ((20 : Int) < (m : Int)) = true := by simp; omega
    clear h
    go_enter Try.func11, Try.ntmps11
    go_wp2_with fail
    go_ret
    exact ⟨rfl, rfl⟩

theorem cmpN_add (a b c : Nat) : cmpN (a + c) (b + c) = cmpN a b := by simp [cmpN]
theorem BitsIs.zero {b : Nat} (h : BitsIs 0 b) : b = 0 := h.unique (.inl ⟨rfl, rfl⟩)
theorem BitsIs.pos {N b : Nat} (h : BitsIs N b) (hN : N ≠ 0) : b ≠ 0 := by
  rcases h with ⟨h, _⟩ | ⟨h, _⟩ <;> omega

section
variable (A B C : Option Addr) (n m k c d f : Nat) (w : World)
set_option maxHeartbeats 4000000 in
theorem ring_far (h1 : n ≤ 9223372036854775807) (h2 : m ≤ 9223372036854775807) (h3 : k ≤ 9223372036854775807) (h : (20 < n ∨ 20 < m) ∨ 20 < k) :
    Calls Try.prog 7 #[.slice A n c, .slice B m d, .slice C k f] w fun e w' => e = .returned (.bool true) ∧ Below w.heap.size w w' := by
  by_cases hab : 20 < n ∨ 20 < m
  · clear h
    have HAB := Lib.hid hab; clear hab
    go_enter Try.func7, Try.ntmps7
    go_wp2_with fail
    refine (awake_any _).mono ?_
    rintro e w1 ⟨rfl, hb⟩
    have HW := Lib.hid hb; clear hb
    go_wp2_with fail
    refine (great_yes _ h1 h2 HAB.out).mono ?_
    rintro e w2 ⟨rfl, rfl⟩
    go_wp2_with fail
    go_ret
    exact ⟨rfl, HW.out⟩
  · have h4 : 20 < k := by omega
    have h5 : n ≤ 20 := by omega
    have h6 : m ≤ 20 := by omega
    clear h hab
    go_enter Try.func7, Try.ntmps7
    go_wp2_with fail
    refine (awake_any _).mono ?_
    rintro e w1 ⟨rfl, hb⟩
    have HW := Lib.hid hb; clear hb
    go_wp2_with fail
    refine (great_no _ h5 h6).mono ?_
    rintro e w2 ⟨rfl, rfl⟩
    go_wp2_with fail
    go_ret
    exact ⟨rfl, HW.out⟩

set_option maxHeartbeats 8000000 in
theorem ring_near (na nb nc : Nat) (ha : Num w A n c 20 na) (hb : Num w B m d 20 nb) (hc : Num w C k f 20 nc) (h1 : n ≤ 20) (h2 : m ≤ 20) (h3 : k ≤ 20) :
    Calls Try.prog 7 #[.slice A n c, .slice B m d, .slice C k f] w fun e w' => e = .returned (.bool true) ∧ Below w.heap.size w w' := by
  have HA := Lib.hid ha; have HB := Lib.hid hb; have HC := Lib.hid hc; clear ha hb hc
  go_enter Try.func7, Try.ntmps7
  go_wp2_with fail
  refine (awake_any _).mono ?_
  rintro e w1 ⟨rfl, hb⟩
  replace HA := Lib.hid (HA.out.new hb)
  replace HB := Lib.hid (HB.out.new hb)
  replace HC := Lib.hid (HC.out.new hb)
  have HW := Lib.hid hb; clear hb
  go_wp2_with fail
  refine (great_no _ h1 h2).mono ?_
  rintro e w2 ⟨rfl, rfl⟩
  go_wp2_with fail
  refine (add_n HA.out HB.out (by omega)).mono ?_
  rintro e w2 ⟨A2, k2, c2, rfl, h2, -, hb⟩
  replace HA := Lib.hid (HA.out.new hb)
  replace HB := Lib.hid (HB.out.new hb)
  replace HC := Lib.hid (HC.out.new hb)
  replace HW := Lib.hid (bthen HW.out hb HW.out.size)
  have HS := Lib.hid h2; clear h2 hb
  go_wp2_with fail
  refine (sub_n HS.out HB.out (by omega)).mono ?_
  rintro e w2 h
  obtain ⟨Ad, kd, cd, rfl, hd, -, hb⟩ := h.2 (Nat.le_add_left _ _)
  clear h
  rw [Nat.add_sub_cancel] at hd
  replace HA := Lib.hid (HA.out.new hb)
  replace HB := Lib.hid (HB.out.new hb)
  replace HC := Lib.hid (HC.out.new hb)
  replace HW := Lib.hid (bthen HW.out hb HW.out.size)
  have HD := Lib.hid hd; clear hd hb HS
  go_wp2_with fail
  refine (add_n HA.out HB.out (by omega)).mono ?_
  rintro e w4 ⟨A4, k4, c4, rfl, h4, -, hb⟩
  replace HA := Lib.hid (HA.out.new hb)
  replace HB := Lib.hid (HB.out.new hb)
  replace HC := Lib.hid (HC.out.new hb)
  replace HD := Lib.hid (HD.out.new hb)
  replace HW := Lib.hid (bthen HW.out hb HW.out.size)
  have HS := Lib.hid h4; clear h4 hb
  go_wp2_with fail
  refine (add_n HB.out HA.out (by omega)).mono ?_
  rintro e w5 ⟨A5, k5, c5, rfl, h5, -, hb⟩
  replace HA := Lib.hid (HA.out.new hb)
  replace HB := Lib.hid (HB.out.new hb)
  replace HC := Lib.hid (HC.out.new hb)
  replace HD := Lib.hid (HD.out.new hb)
  replace HS := Lib.hid (HS.out.new hb)
  replace HW := Lib.hid (bthen HW.out hb HW.out.size)
  have HT := Lib.hid h5; clear h5 hb
  go_wp2_with fail
  refine (cmp_n HS.out HT.out).mono ?_
  rintro e w6 ⟨rfl, hb⟩
  rw [Nat.add_comm nb na, cmpN_self]
  replace HA := Lib.hid (HA.out.new hb)
  replace HB := Lib.hid (HB.out.new hb)
  replace HC := Lib.hid (HC.out.new hb)
  replace HD := Lib.hid (HD.out.new hb)
  replace HS := Lib.hid (HS.out.new hb)
  replace HT := Lib.hid (HT.out.new hb)
  replace HW := Lib.hid (bthen HW.out hb HW.out.size)
  clear hb
  clear HS HT
  go_wp2_with fail
  refine (mul_n HA.out HB.out (by omega)).mono ?_
  rintro e w8 ⟨A8, k8, c8, rfl, h8, -, hb⟩
  replace HA := Lib.hid (HA.out.new hb)
  replace HB := Lib.hid (HB.out.new hb)
  replace HC := Lib.hid (HC.out.new hb)
  replace HD := Lib.hid (HD.out.new hb)
  replace HW := Lib.hid (bthen HW.out hb HW.out.size)
  have HS := Lib.hid h8; clear h8 hb
  go_wp2_with fail
  refine (mul_n HB.out HA.out (by omega)).mono ?_
  rintro e w9 ⟨A9, k9, c9, rfl, h9, -, hb⟩
  replace HA := Lib.hid (HA.out.new hb)
  replace HB := Lib.hid (HB.out.new hb)
  replace HC := Lib.hid (HC.out.new hb)
  replace HD := Lib.hid (HD.out.new hb)
  replace HS := Lib.hid (HS.out.new hb)
  replace HW := Lib.hid (bthen HW.out hb HW.out.size)
  have HT := Lib.hid h9; clear h9 hb
  go_wp2_with fail
  refine (cmp_n HS.out HT.out).mono ?_
  rintro e w10 ⟨rfl, hb⟩
  rw [Nat.mul_comm nb na, cmpN_self]
  replace HA := Lib.hid (HA.out.new hb)
  replace HB := Lib.hid (HB.out.new hb)
  replace HC := Lib.hid (HC.out.new hb)
  replace HD := Lib.hid (HD.out.new hb)
  replace HS := Lib.hid (HS.out.new hb)
  replace HT := Lib.hid (HT.out.new hb)
  replace HW := Lib.hid (bthen HW.out hb HW.out.size)
  clear hb
  clear HS HT
  go_wp2_with fail
  refine (cmp_n HD.out HA.out).mono ?_
  rintro e w12 ⟨rfl, hb⟩
  rw [cmpN_self]
  replace HA := Lib.hid (HA.out.new hb)
  replace HB := Lib.hid (HB.out.new hb)
  replace HC := Lib.hid (HC.out.new hb)
  replace HD := Lib.hid (HD.out.new hb)
  replace HW := Lib.hid (bthen HW.out hb HW.out.size)
  clear hb
  clear HD
  go_wp2_with fail
  refine (add_n HA.out HB.out (by omega)).mono ?_
  rintro e w14 ⟨A14, k14, c14, rfl, h14, -, hb⟩
  replace HA := Lib.hid (HA.out.new hb)
  replace HB := Lib.hid (HB.out.new hb)
  replace HC := Lib.hid (HC.out.new hb)
  replace HW := Lib.hid (bthen HW.out hb HW.out.size)
  have HS := Lib.hid h14; clear h14 hb
  go_wp2_with fail
  refine (add_n HS.out HC.out (by omega)).mono ?_
  rintro e w15 ⟨A15, k15, c15, rfl, h15, -, hb⟩
  replace HA := Lib.hid (HA.out.new hb)
  replace HB := Lib.hid (HB.out.new hb)
  replace HC := Lib.hid (HC.out.new hb)
  replace HS := Lib.hid (HS.out.new hb)
  replace HW := Lib.hid (bthen HW.out hb HW.out.size)
  have HT := Lib.hid h15; clear h15 hb
  go_wp2_with fail
  refine (add_n HB.out HC.out (by omega)).mono ?_
  rintro e w16 ⟨A16, k16, c16, rfl, h16, -, hb⟩
  replace HA := Lib.hid (HA.out.new hb)
  replace HB := Lib.hid (HB.out.new hb)
  replace HC := Lib.hid (HC.out.new hb)
  replace HS := Lib.hid (HS.out.new hb)
  replace HT := Lib.hid (HT.out.new hb)
  replace HW := Lib.hid (bthen HW.out hb HW.out.size)
  have HU := Lib.hid h16; clear h16 hb
  go_wp2_with fail
  refine (add_n HA.out HU.out (by omega)).mono ?_
  rintro e w17 ⟨A17, k17, c17, rfl, h17, -, hb⟩
  replace HA := Lib.hid (HA.out.new hb)
  replace HB := Lib.hid (HB.out.new hb)
  replace HC := Lib.hid (HC.out.new hb)
  replace HS := Lib.hid (HS.out.new hb)
  replace HT := Lib.hid (HT.out.new hb)
  replace HU := Lib.hid (HU.out.new hb)
  replace HW := Lib.hid (bthen HW.out hb HW.out.size)
  have HV := Lib.hid h17; clear h17 hb
  go_wp2_with fail
  refine (cmp_n HT.out HV.out).mono ?_
  rintro e w18 ⟨rfl, hb⟩
  rw [Nat.add_assoc, cmpN_self]
  replace HA := Lib.hid (HA.out.new hb)
  replace HB := Lib.hid (HB.out.new hb)
  replace HC := Lib.hid (HC.out.new hb)
  replace HS := Lib.hid (HS.out.new hb)
  replace HT := Lib.hid (HT.out.new hb)
  replace HU := Lib.hid (HU.out.new hb)
  replace HV := Lib.hid (HV.out.new hb)
  replace HW := Lib.hid (bthen HW.out hb HW.out.size)
  clear hb
  clear HS HT HU HV
  go_wp2_with fail
  refine (mul_n HA.out HB.out (by omega)).mono ?_
  rintro e w20 ⟨A20, k20, c20, rfl, h20, -, hb⟩
  replace HA := Lib.hid (HA.out.new hb)
  replace HB := Lib.hid (HB.out.new hb)
  replace HC := Lib.hid (HC.out.new hb)
  replace HW := Lib.hid (bthen HW.out hb HW.out.size)
  have HS := Lib.hid h20; clear h20 hb
  go_wp2_with fail
  refine (mul_n HS.out HC.out (by omega)).mono ?_
  rintro e w21 ⟨A21, k21, c21, rfl, h21, -, hb⟩
  replace HA := Lib.hid (HA.out.new hb)
  replace HB := Lib.hid (HB.out.new hb)
  replace HC := Lib.hid (HC.out.new hb)
  replace HS := Lib.hid (HS.out.new hb)
  replace HW := Lib.hid (bthen HW.out hb HW.out.size)
  have HT := Lib.hid h21; clear h21 hb
  go_wp2_with fail
  refine (mul_n HB.out HC.out (by omega)).mono ?_
  rintro e w22 ⟨A22, k22, c22, rfl, h22, -, hb⟩
  replace HA := Lib.hid (HA.out.new hb)
  replace HB := Lib.hid (HB.out.new hb)
  replace HC := Lib.hid (HC.out.new hb)
  replace HS := Lib.hid (HS.out.new hb)
  replace HT := Lib.hid (HT.out.new hb)
  replace HW := Lib.hid (bthen HW.out hb HW.out.size)
  have HU := Lib.hid h22; clear h22 hb
  go_wp2_with fail
  refine (mul_n HA.out HU.out (by omega)).mono ?_
  rintro e w23 ⟨A23, k23, c23, rfl, h23, -, hb⟩
  replace HA := Lib.hid (HA.out.new hb)
  replace HB := Lib.hid (HB.out.new hb)
  replace HC := Lib.hid (HC.out.new hb)
  replace HS := Lib.hid (HS.out.new hb)
  replace HT := Lib.hid (HT.out.new hb)
  replace HU := Lib.hid (HU.out.new hb)
  replace HW := Lib.hid (bthen HW.out hb HW.out.size)
  have HV := Lib.hid h23; clear h23 hb
  go_wp2_with fail
  refine (cmp_n HT.out HV.out).mono ?_
  rintro e w24 ⟨rfl, hb⟩
  rw [Nat.mul_assoc, cmpN_self]
  replace HA := Lib.hid (HA.out.new hb)
  replace HB := Lib.hid (HB.out.new hb)
  replace HC := Lib.hid (HC.out.new hb)
  replace HS := Lib.hid (HS.out.new hb)
  replace HT := Lib.hid (HT.out.new hb)
  replace HU := Lib.hid (HU.out.new hb)
  replace HV := Lib.hid (HV.out.new hb)
  replace HW := Lib.hid (bthen HW.out hb HW.out.size)
  clear hb
  clear HS HT HU HV
  go_wp2_with fail
  refine (add_n HB.out HC.out (by omega)).mono ?_
  rintro e w26 ⟨A26, k26, c26, rfl, h26, -, hb⟩
  replace HA := Lib.hid (HA.out.new hb)
  replace HB := Lib.hid (HB.out.new hb)
  replace HC := Lib.hid (HC.out.new hb)
  replace HW := Lib.hid (bthen HW.out hb HW.out.size)
  have HS := Lib.hid h26; clear h26 hb
  go_wp2_with fail
  refine (mul_n HA.out HS.out (by omega)).mono ?_
  rintro e w27 ⟨A27, k27, c27, rfl, h27, -, hb⟩
  replace HA := Lib.hid (HA.out.new hb)
  replace HB := Lib.hid (HB.out.new hb)
  replace HC := Lib.hid (HC.out.new hb)
  replace HS := Lib.hid (HS.out.new hb)
  replace HW := Lib.hid (bthen HW.out hb HW.out.size)
  have HT := Lib.hid h27; clear h27 hb
  go_wp2_with fail
  refine (mul_n HA.out HB.out (by omega)).mono ?_
  rintro e w28 ⟨A28, k28, c28, rfl, h28, -, hb⟩
  replace HA := Lib.hid (HA.out.new hb)
  replace HB := Lib.hid (HB.out.new hb)
  replace HC := Lib.hid (HC.out.new hb)
  replace HS := Lib.hid (HS.out.new hb)
  replace HT := Lib.hid (HT.out.new hb)
  replace HW := Lib.hid (bthen HW.out hb HW.out.size)
  have HU := Lib.hid h28; clear h28 hb
  go_wp2_with fail
  refine (mul_n HA.out HC.out (by omega)).mono ?_
  rintro e w29 ⟨A29, k29, c29, rfl, h29, -, hb⟩
  replace HA := Lib.hid (HA.out.new hb)
  replace HB := Lib.hid (HB.out.new hb)
  replace HC := Lib.hid (HC.out.new hb)
  replace HS := Lib.hid (HS.out.new hb)
  replace HT := Lib.hid (HT.out.new hb)
  replace HU := Lib.hid (HU.out.new hb)
  replace HW := Lib.hid (bthen HW.out hb HW.out.size)
  have HV := Lib.hid h29; clear h29 hb
  go_wp2_with fail
  refine (add_n HU.out HV.out (by omega)).mono ?_
  rintro e w30 ⟨A30, k30, c30, rfl, h30, -, hb⟩
  replace HA := Lib.hid (HA.out.new hb)
  replace HB := Lib.hid (HB.out.new hb)
  replace HC := Lib.hid (HC.out.new hb)
  replace HS := Lib.hid (HS.out.new hb)
  replace HT := Lib.hid (HT.out.new hb)
  replace HU := Lib.hid (HU.out.new hb)
  replace HV := Lib.hid (HV.out.new hb)
  replace HW := Lib.hid (bthen HW.out hb HW.out.size)
  have HX := Lib.hid h30; clear h30 hb
  go_wp2_with fail
  refine (cmp_n HT.out HX.out).mono ?_
  rintro e w31 ⟨rfl, hb⟩
  rw [Nat.mul_add, cmpN_self]
  replace HA := Lib.hid (HA.out.new hb)
  replace HB := Lib.hid (HB.out.new hb)
  replace HC := Lib.hid (HC.out.new hb)
  replace HS := Lib.hid (HS.out.new hb)
  replace HT := Lib.hid (HT.out.new hb)
  replace HU := Lib.hid (HU.out.new hb)
  replace HV := Lib.hid (HV.out.new hb)
  replace HX := Lib.hid (HX.out.new hb)
  replace HW := Lib.hid (bthen HW.out hb HW.out.size)
  clear hb
  clear HS HT HU HV HX
  go_wp2_with fail
  refine (add_n HA.out HC.out (by omega)).mono ?_
  rintro e w33 ⟨A33, k33, c33, rfl, h33, -, hb⟩
  replace HA := Lib.hid (HA.out.new hb)
  replace HB := Lib.hid (HB.out.new hb)
  replace HC := Lib.hid (HC.out.new hb)
  replace HW := Lib.hid (bthen HW.out hb HW.out.size)
  have HS := Lib.hid h33; clear h33 hb
  go_wp2_with fail
  refine (add_n HB.out HC.out (by omega)).mono ?_
  rintro e w34 ⟨A34, k34, c34, rfl, h34, -, hb⟩
  replace HA := Lib.hid (HA.out.new hb)
  replace HB := Lib.hid (HB.out.new hb)
  replace HC := Lib.hid (HC.out.new hb)
  replace HS := Lib.hid (HS.out.new hb)
  replace HW := Lib.hid (bthen HW.out hb HW.out.size)
  have HT := Lib.hid h34; clear h34 hb
  go_wp2_with fail
  refine (cmp_n HS.out HT.out).mono ?_
  rintro e w35 ⟨rfl, hb⟩
  rw [cmpN_add]
  replace HA := Lib.hid (HA.out.new hb)
  replace HB := Lib.hid (HB.out.new hb)
  replace HC := Lib.hid (HC.out.new hb)
  replace HS := Lib.hid (HS.out.new hb)
  replace HT := Lib.hid (HT.out.new hb)
  replace HW := Lib.hid (bthen HW.out hb HW.out.size)
  clear hb
  clear HS HT
  go_wp2_with fail
  refine (cmp_n HA.out HB.out).mono ?_
  rintro e w37 ⟨rfl, hb⟩
  replace HA := Lib.hid (HA.out.new hb)
  replace HB := Lib.hid (HB.out.new hb)
  replace HC := Lib.hid (HC.out.new hb)
  replace HW := Lib.hid (bthen HW.out hb HW.out.size)
  clear hb
  go_wp2_with fail
  refine (mul_n HA.out HB.out (by omega)).mono ?_
  rintro e w38 ⟨A38, k38, c38, rfl, h38, -, hb⟩
  replace HA := Lib.hid (HA.out.new hb)
  replace HB := Lib.hid (HB.out.new hb)
  replace HC := Lib.hid (HC.out.new hb)
  replace HW := Lib.hid (bthen HW.out hb HW.out.size)
  have HS := Lib.hid h38; clear h38 hb
  by_cases h0 : nb = 0
  · go_wp2_with fail
    refine (dm_n HS.out HB.out (by omega) (by omega)).mono ?_
    rintro e w2 h
    obtain ⟨rfl, hb⟩ := h.1 h0
    clear h
    replace HB := Lib.hid (HB.out.new hb)
    replace HW := Lib.hid (bthen HW.out hb HW.out.size)
    clear hb
    go_wp2_with fail
    refine (bits_n HB.out).mono ?_
    rintro e w3 ⟨b, rfl, hbi, -, rfl⟩
    rw [h0] at hbi
    obtain rfl := hbi.zero
    clear hbi
    have HN := Lib.hid h0; clear h0
    go_wp2_with fail
    go_ret
    exact ⟨rfl, HW.out⟩
  · go_wp2_with fail
    refine (dm_n HS.out HB.out (by omega) (by omega)).mono ?_
    rintro e w2 h
    obtain ⟨Aq, kq, cq, Ar, kr, cr, rfl, ⟨hq, -⟩, ⟨hr, -⟩, hb⟩ := h.2 h0
    clear h
    rw [Nat.mul_div_cancel _ (Nat.pos_of_ne_zero h0)] at hq
    rw [Nat.mul_mod_left] at hr
    replace HA := Lib.hid (HA.out.new hb)
    replace HB := Lib.hid (HB.out.new hb)
    replace HW := Lib.hid (bthen HW.out hb HW.out.size)
    have HQ := Lib.hid hq; have HR := Lib.hid hr; clear hq hr hb
    have H0 := Lib.hid h0; clear h0
    go_wp2_with fail
    refine (bits_n HB.out).mono ?_
    rintro e w3 ⟨b, rfl, hbi, hb3, rfl⟩
    have hbz : ((b : Int) == 0) = false := by have := hbi.pos H0.out; simp; omega
    clear hbi
    go_wp2_with fail
    refine (cmp_n HQ.out HA.out).mono ?_
    rintro e w4 ⟨rfl, hb⟩
    rw [cmpN_self]
    replace HR := Lib.hid (HR.out.new hb)
    replace HW := Lib.hid (bthen HW.out hb HW.out.size)
    clear hb
    go_wp2_with fail
    refine (bits_n HR.out).mono ?_
    rintro e w5 ⟨b', rfl, hbi, -, rfl⟩
    obtain rfl := hbi.zero
    clear hbi
    go_wp2_with fail
    go_ret
    exact ⟨rfl, HW.out⟩
end

theorem natRing_walk (A : Option Addr) (ds : List Nat) (n c : Nat) (B : Option Addr) (fs : List Nat) (m d : Nat) (C : Option Addr) (gs : List Nat) (k f : Nat) (w : World) (hr : Es w w.heap.size A n ds) (hc : n ≤ c) (hs : Es w w.heap.size B m fs) (hd : m ≤ d) (ht : Es w w.heap.size C k gs) (hf : k ≤ f) :
    Calls Try.prog 7 #[.slice A n c, .slice B m d, .slice C k f] w fun e w' => e = .returned (.bool true) ∧ Below w.heap.size w w' := by
  by_cases h : (20 < n ∨ 20 < m) ∨ 20 < k
  · exact ring_far A B C n m k c d f w hr.le hs.le ht.le h
  · exact ring_near A B C n m k c d f w _ _ _ (Num.of_es hr hc (by omega) (by omega) (by omega)) (Num.of_es hs hd (by omega) (by omega) (by omega)) (Num.of_es ht hf (by omega) (by omega) (by omega)) (by omega) (by omega) (by omega)

end Go.Proofs.Ytnpokifmknepoaa
