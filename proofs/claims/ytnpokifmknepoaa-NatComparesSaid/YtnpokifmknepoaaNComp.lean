/-
  The walk of NatCompares.
-/
import Derived.Test.YtnpokifmknepoaaNArith
namespace Go.Proofs.Ytnpokifmknepoaa
open Go.RowKit

theorem es_two (w : World) (x y : Nat) (hx : x < 4294967296) (hy : y < 4294967296) : Es (w.alloc (.cells #[.int .u32 (x : Int), .int .u32 (y : Int)] 35)) (w.alloc (.cells #[.int .u32 (x : Int), .int .u32 (y : Int)] 35)).heap.size (some ⟨w.heap.size, 0, none⟩) 2 [x, y] := by
  refine Es.of_blk (l := [x, y]) (t := 35) ?_ (by simp) ?_
  · have := Blk.new w 35 (urow [x, y])
    simpa [urow, U32] using this
  · intro e he
    simp at he
    omega
theorem max_two : valB 4294967296 [4294967295, 4294967295] = 18446744073709551615 := by simp [valB]
theorem cmpN_le {a b : Nat} (h : a ≤ b) : cmpN a b ≤ 0 ∧ -1 ≤ cmpN a b := by
  unfold cmpN; split
  · omega
  · rw [if_neg (by omega)]; omega
theorem cmpN_gt {a b : Nat} (h : b < a) : cmpN a b = 1 := by
  unfold cmpN; rw [if_neg (by omega), if_pos h]
section
variable (A B : Option Addr) (n m c d x : Nat) (w : World)
set_option maxHeartbeats 4000000 in
theorem comp_far (h1 : n ≤ 9223372036854775807) (h2 : m ≤ 9223372036854775807) (h : 20 < n ∨ 20 < m) :
    Calls Try.prog 3 #[.slice A n c, .slice B m d, .int .u64 x] w fun e w' => e = .returned (.bool true) ∧ Below w.heap.size w w' := by
  have HAB := Lib.hid h; clear h
  go_enter Try.func3, Try.ntmps3
  go_wp2_with fail
  refine (awake_any _).mono ?_
  rintro e w1 ⟨rfl, hb⟩
  have HW := Lib.hid hb; clear hb
  go_wp2_with fail
  refine (great_yes _ h1 h2 HAB.out).mono ?_
  rintro e w2 ⟨rfl, rfl⟩
  go_wp2_with fail
  go_ret
  exact ⟨rfl, HW.out⟩

set_option maxHeartbeats 8000000 in
theorem comp_small (N M : Nat) (ha : Num w A n c 20 N) (hb : Num w B m d 20 M) (h1 : n ≤ 20) (h2 : m ≤ 20) (hx : x < 18446744073709551616) (hlt : N < 18446744073709551616) :
    Calls Try.prog 3 #[.slice A n c, .slice B m d, .int .u64 x] w fun e w' => e = .returned (.bool true) ∧ Below w.heap.size w w' := by
  have hN := ha.2.2.2.1; have hM := hb.2.2.2.1
  have HN := Lib.hid hN; have HM := Lib.hid hM; clear hN hM
  have HA := Lib.hid ha; have HB := Lib.hid hb; clear ha hb
  have HLT := Lib.hid hlt; clear hlt
  go_enter Try.func3, Try.ntmps3
  go_wp2_with fail
  refine (awake_any _).mono ?_
  rintro e w1 ⟨rfl, hb⟩
  replace HA := Lib.hid (HA.out.new hb)
  replace HB := Lib.hid (HB.out.new hb)
  have HW := Lib.hid hb; clear hb
  go_wp2_with fail
  refine (great_no _ h1 h2).mono ?_
  rintro e w2 ⟨rfl, rfl⟩
  go_wp2_with fail
  refine (of_d HA.out).mono ?_
  rintro e w11 ⟨A11, k11, c11, rfl, h11, hb⟩
  replace HA := Lib.hid (HA.out.new hb)
  replace HB := Lib.hid (HB.out.new hb)
  replace HW := Lib.hid (bthen HW.out hb HW.out.size)
  have HX := Lib.hid h11; clear h11
  clear hb
  have hkx := dn_200 HX.out HN.out
  go_wp2_with fail
  refine (of_d HB.out).mono ?_
  rintro e w12 ⟨A12, k12, c12, rfl, h12, hb⟩
  replace HA := Lib.hid (HA.out.new hb)
  replace HB := Lib.hid (HB.out.new hb)
  replace HX := Lib.hid (HX.out.new hb)
  replace HW := Lib.hid (bthen HW.out hb HW.out.size)
  have HY := Lib.hid h12; clear h12
  clear hb
  have hky := dn_200 HY.out HM.out
  go_wp2_with fail
  refine (u64_n HA.out).mono ?_
  rintro e w20 ⟨hu1, hu2, rfl⟩
  obtain rfl := hu1 HLT.out
  clear hu1 hu2
  go_wp2_with fail
  refine (of_n x hx _).mono ?_
  rintro e w13 ⟨A13, k13, c13, rfl, h13, j13, hb⟩
  replace HA := Lib.hid (HA.out.new hb)
  replace HB := Lib.hid (HB.out.new hb)
  replace HX := Lib.hid (HX.out.new hb)
  replace HY := Lib.hid (HY.out.new hb)
  replace HW := Lib.hid (bthen HW.out hb HW.out.size)
  have HP := Lib.hid h13; clear h13
  have JP := Lib.hid j13; clear j13
  clear hb
  go_wp2_with fail
  refine (u64_n HP.out).mono ?_
  rintro e w21 ⟨hu1, hu2, rfl⟩
  obtain rfl := hu1 hx
  clear hu1 hu2
  clear HP JP
  go_wp2_with fail
  have hE := fun W => es_two W 4294967295 4294967295 (by omega) (by omega)
  refine (rof_any _ [4294967295, 4294967295] 2 2 _ (hE _) (by omega)).mono ?_
  rw [max_two]
  rintro e w22 ⟨A22, k22, c22, rfl, h22, hb0⟩
  have hb := bthen (al _ _) hb0 (al _ _).size
  clear hb0 hE
  replace HA := Lib.hid (HA.out.new hb)
  replace HB := Lib.hid (HB.out.new hb)
  replace HX := Lib.hid (HX.out.new hb)
  replace HY := Lib.hid (HY.out.new hb)
  replace HW := Lib.hid (bthen HW.out hb HW.out.size)
  have HQ := Lib.hid h22; clear h22 hb
  go_wp2_with fail
  refine (rcmp_any _ _ _ N _ _ _ 18446744073709551615 _ HX.out HQ.out).mono ?_
  rintro e w23 ⟨rfl, hb⟩
  replace HA := Lib.hid (HA.out.new hb)
  replace HB := Lib.hid (HB.out.new hb)
  replace HX := Lib.hid (HX.out.new hb)
  replace HY := Lib.hid (HY.out.new hb)
  replace HQ := Lib.hid (HQ.out.new hb)
  replace HW := Lib.hid (bthen HW.out hb HW.out.size)
  clear hb
  have hz := cmpN_le (a := N) (b := 18446744073709551615) (by have := HLT.out; omega)
  generalize cmpN N 18446744073709551615 = z at *
  obtain ⟨hz1, hz2⟩ := hz
  have tz : decide (0 < z) = false := by simp; omega
  clear HQ
  go_wp2_with fail
  refine (of_n N HLT.out _).mono ?_
  rintro e w24 ⟨A24, k24, c24, rfl, h24, j24, hb⟩
  replace HA := Lib.hid (HA.out.new hb)
  replace HB := Lib.hid (HB.out.new hb)
  replace HX := Lib.hid (HX.out.new hb)
  replace HY := Lib.hid (HY.out.new hb)
  replace HW := Lib.hid (bthen HW.out hb HW.out.size)
  have HP := Lib.hid h24; clear h24
  have JP := Lib.hid j24; clear j24
  clear hb
  go_wp2_with fail
  refine (is_d HP.out JP.out HX.out).mono ?_
  rintro e w25 ⟨rfl, hb⟩
  replace HA := Lib.hid (HA.out.new hb)
  replace HB := Lib.hid (HB.out.new hb)
  replace HX := Lib.hid (HX.out.new hb)
  replace HY := Lib.hid (HY.out.new hb)
  replace HP := Lib.hid (HP.out.new hb)
  replace JP := Lib.hid (JP.out.new hb)
  replace HW := Lib.hid (bthen HW.out hb HW.out.size)
  clear hb
  clear HP JP
  go_wp2_with fail
  refine (cmp_n HA.out HB.out).mono ?_
  rintro e w26 ⟨rfl, hb⟩
  replace HA := Lib.hid (HA.out.new hb)
  replace HB := Lib.hid (HB.out.new hb)
  replace HX := Lib.hid (HX.out.new hb)
  replace HY := Lib.hid (HY.out.new hb)
  replace HW := Lib.hid (bthen HW.out hb HW.out.size)
  clear hb
  go_wp2_with fail
  refine (rcmp_any _ _ _ N _ _ _ M _ HX.out HY.out).mono ?_
  rintro e w27 ⟨rfl, hb⟩
  replace HA := Lib.hid (HA.out.new hb)
  replace HB := Lib.hid (HB.out.new hb)
  replace HX := Lib.hid (HX.out.new hb)
  replace HY := Lib.hid (HY.out.new hb)
  replace HW := Lib.hid (bthen HW.out hb HW.out.size)
  clear hb
  have tq : (cmpN N M == cmpN N M) = true := by simp
  generalize cmpN N M = y at *
  go_wp2_with fail
  refine (norm_n HA.out (by omega)).mono ?_
  rintro e w28 ⟨A28, k28, c28, rfl, h28, j28, hb⟩
  replace HA := Lib.hid (HA.out.new hb)
  replace HB := Lib.hid (HB.out.new hb)
  replace HX := Lib.hid (HX.out.new hb)
  replace HY := Lib.hid (HY.out.new hb)
  replace HW := Lib.hid (bthen HW.out hb HW.out.size)
  have HP := Lib.hid h28; clear h28
  have JP := Lib.hid j28; clear j28
  clear hb
  go_wp2_with fail
  refine (is_d HP.out JP.out HX.out).mono ?_
  rintro e w29 ⟨rfl, hb⟩
  replace HA := Lib.hid (HA.out.new hb)
  replace HB := Lib.hid (HB.out.new hb)
  replace HX := Lib.hid (HX.out.new hb)
  replace HY := Lib.hid (HY.out.new hb)
  replace HP := Lib.hid (HP.out.new hb)
  replace JP := Lib.hid (JP.out.new hb)
  replace HW := Lib.hid (bthen HW.out hb HW.out.size)
  clear hb
  clear HP JP
  go_wp2_with fail
  refine (bits_n HA.out).mono ?_
  rintro e w40 ⟨b, rfl, hbits, hb3, rfl⟩
  have HBI := Lib.hid hbits; clear hbits
  go_wp2_with fail
  refine (rbits_any _ _ _ N _ HX.out (by omega)).mono ?_
  rintro e w41 ⟨b2, rfl, hbits, hb⟩
  replace HA := Lib.hid (HA.out.new hb)
  replace HB := Lib.hid (HB.out.new hb)
  replace HX := Lib.hid (HX.out.new hb)
  replace HY := Lib.hid (HY.out.new hb)
  replace HW := Lib.hid (bthen HW.out hb HW.out.size)
  clear hb
  obtain rfl : b = b2 := HBI.out.unique hbits
  clear hbits
  have tb : ((b : Int) == (b : Int)) = true := by simp
  go_wp2_with fail
  refine (of_n x hx _).mono ?_
  rintro e w42 ⟨A42, k42, c42, rfl, h42, j42, hb⟩
  replace HA := Lib.hid (HA.out.new hb)
  replace HB := Lib.hid (HB.out.new hb)
  replace HX := Lib.hid (HX.out.new hb)
  replace HY := Lib.hid (HY.out.new hb)
  replace HW := Lib.hid (bthen HW.out hb HW.out.size)
  have HP := Lib.hid h42; clear h42
  have JP := Lib.hid j42; clear j42
  clear hb
  have hE := fun W => es_two W (x % 4294967296) (x / 4294967296) (by omega) (by omega)
  simp only [Int.natCast_emod, Int.natCast_ediv, Int.cast_ofNat_Int] at hE
  go_wp2_with fail
  refine (rof_any _ [x % 4294967296, x / 4294967296] 2 2 _ (hE _) (by omega)).mono ?_
  rw [cell_split x hx]
  rintro e w50 ⟨A50, k50, c50, rfl, h50, hb0⟩
  have hb := bthen (al _ _) hb0 (al _ _).size
  clear hb0 hE
  replace HA := Lib.hid (HA.out.new hb)
  replace HB := Lib.hid (HB.out.new hb)
  replace HX := Lib.hid (HX.out.new hb)
  replace HY := Lib.hid (HY.out.new hb)
  replace HP := Lib.hid (HP.out.new hb)
  replace JP := Lib.hid (JP.out.new hb)
  replace HW := Lib.hid (bthen HW.out hb HW.out.size)
  have HQ := Lib.hid h50; clear h50 hb
  go_wp2_with fail
  refine (is_d HP.out JP.out HQ.out).mono ?_
  rintro e w51 ⟨rfl, hb⟩
  replace HA := Lib.hid (HA.out.new hb)
  replace HB := Lib.hid (HB.out.new hb)
  replace HX := Lib.hid (HX.out.new hb)
  replace HY := Lib.hid (HY.out.new hb)
  replace HP := Lib.hid (HP.out.new hb)
  replace JP := Lib.hid (JP.out.new hb)
  replace HQ := Lib.hid (HQ.out.new hb)
  replace HW := Lib.hid (bthen HW.out hb HW.out.size)
  clear hb
  go_wp2_with fail
  go_ret
  exact ⟨rfl, HW.out⟩

set_option maxHeartbeats 8000000 in
theorem comp_big (N M : Nat) (ha : Num w A n c 20 N) (hb : Num w B m d 20 M) (h1 : n ≤ 20) (h2 : m ≤ 20) (hx : x < 18446744073709551616) (hlt : 18446744073709551616 ≤ N) :
    Calls Try.prog 3 #[.slice A n c, .slice B m d, .int .u64 x] w fun e w' => e = .returned (.bool true) ∧ Below w.heap.size w w' := by
  have hN := ha.2.2.2.1; have hM := hb.2.2.2.1
  have HN := Lib.hid hN; have HM := Lib.hid hM; clear hN hM
  have HA := Lib.hid ha; have HB := Lib.hid hb; clear ha hb
  have HLT := Lib.hid hlt; clear hlt
  go_enter Try.func3, Try.ntmps3
  go_wp2_with fail
  refine (awake_any _).mono ?_
  rintro e w1 ⟨rfl, hb⟩
  replace HA := Lib.hid (HA.out.new hb)
  replace HB := Lib.hid (HB.out.new hb)
  have HW := Lib.hid hb; clear hb
  go_wp2_with fail
  refine (great_no _ h1 h2).mono ?_
  rintro e w2 ⟨rfl, rfl⟩
  go_wp2_with fail
  refine (of_d HA.out).mono ?_
  rintro e w11 ⟨A11, k11, c11, rfl, h11, hb⟩
  replace HA := Lib.hid (HA.out.new hb)
  replace HB := Lib.hid (HB.out.new hb)
  replace HW := Lib.hid (bthen HW.out hb HW.out.size)
  have HX := Lib.hid h11; clear h11
  clear hb
  have hkx := dn_200 HX.out HN.out
  go_wp2_with fail
  refine (of_d HB.out).mono ?_
  rintro e w12 ⟨A12, k12, c12, rfl, h12, hb⟩
  replace HA := Lib.hid (HA.out.new hb)
  replace HB := Lib.hid (HB.out.new hb)
  replace HX := Lib.hid (HX.out.new hb)
  replace HW := Lib.hid (bthen HW.out hb HW.out.size)
  have HY := Lib.hid h12; clear h12
  clear hb
  have hky := dn_200 HY.out HM.out
  go_wp2_with fail
  refine (u64_n HA.out).mono ?_
  rintro e w20 ⟨hu1, hu2, rfl⟩
  obtain rfl := hu2 HLT.out
  clear hu1 hu2
  go_wp2_with fail
  refine (of_n x hx _).mono ?_
  rintro e w13 ⟨A13, k13, c13, rfl, h13, j13, hb⟩
  replace HA := Lib.hid (HA.out.new hb)
  replace HB := Lib.hid (HB.out.new hb)
  replace HX := Lib.hid (HX.out.new hb)
  replace HY := Lib.hid (HY.out.new hb)
  replace HW := Lib.hid (bthen HW.out hb HW.out.size)
  have HP := Lib.hid h13; clear h13
  have JP := Lib.hid j13; clear j13
  clear hb
  go_wp2_with fail
  refine (u64_n HP.out).mono ?_
  rintro e w21 ⟨hu1, hu2, rfl⟩
  obtain rfl := hu1 hx
  clear hu1 hu2
  clear HP JP
  go_wp2_with fail
  have hE := fun W => es_two W 4294967295 4294967295 (by omega) (by omega)
  refine (rof_any _ [4294967295, 4294967295] 2 2 _ (hE _) (by omega)).mono ?_
  rw [max_two]
  rintro e w22 ⟨A22, k22, c22, rfl, h22, hb0⟩
  have hb := bthen (al _ _) hb0 (al _ _).size
  clear hb0 hE
  replace HA := Lib.hid (HA.out.new hb)
  replace HB := Lib.hid (HB.out.new hb)
  replace HX := Lib.hid (HX.out.new hb)
  replace HY := Lib.hid (HY.out.new hb)
  replace HW := Lib.hid (bthen HW.out hb HW.out.size)
  have HQ := Lib.hid h22; clear h22 hb
  go_wp2_with fail
  refine (rcmp_any _ _ _ N _ _ _ 18446744073709551615 _ HX.out HQ.out).mono ?_
  rintro e w23 ⟨rfl, hb⟩
  rw [cmpN_gt (by have := HLT.out; omega)]
  replace HA := Lib.hid (HA.out.new hb)
  replace HB := Lib.hid (HB.out.new hb)
  replace HX := Lib.hid (HX.out.new hb)
  replace HY := Lib.hid (HY.out.new hb)
  replace HQ := Lib.hid (HQ.out.new hb)
  replace HW := Lib.hid (bthen HW.out hb HW.out.size)
  clear hb
  clear HQ
  go_wp2_with fail
  refine (cmp_n HA.out HB.out).mono ?_
  rintro e w24 ⟨rfl, hb⟩
  replace HA := Lib.hid (HA.out.new hb)
  replace HB := Lib.hid (HB.out.new hb)
  replace HX := Lib.hid (HX.out.new hb)
  replace HY := Lib.hid (HY.out.new hb)
  replace HW := Lib.hid (bthen HW.out hb HW.out.size)
  clear hb
  go_wp2_with fail
  refine (rcmp_any _ _ _ N _ _ _ M _ HX.out HY.out).mono ?_
  rintro e w25 ⟨rfl, hb⟩
  replace HA := Lib.hid (HA.out.new hb)
  replace HB := Lib.hid (HB.out.new hb)
  replace HX := Lib.hid (HX.out.new hb)
  replace HY := Lib.hid (HY.out.new hb)
  replace HW := Lib.hid (bthen HW.out hb HW.out.size)
  clear hb
  have tq : (cmpN N M == cmpN N M) = true := by simp
  generalize cmpN N M = y at *
  go_wp2_with fail
  refine (norm_n HA.out (by omega)).mono ?_
  rintro e w26 ⟨A26, k26, c26, rfl, h26, j26, hb⟩
  replace HA := Lib.hid (HA.out.new hb)
  replace HB := Lib.hid (HB.out.new hb)
  replace HX := Lib.hid (HX.out.new hb)
  replace HY := Lib.hid (HY.out.new hb)
  replace HW := Lib.hid (bthen HW.out hb HW.out.size)
  have HP := Lib.hid h26; clear h26
  have JP := Lib.hid j26; clear j26
  clear hb
  go_wp2_with fail
  refine (is_d HP.out JP.out HX.out).mono ?_
  rintro e w27 ⟨rfl, hb⟩
  replace HA := Lib.hid (HA.out.new hb)
  replace HB := Lib.hid (HB.out.new hb)
  replace HX := Lib.hid (HX.out.new hb)
  replace HY := Lib.hid (HY.out.new hb)
  replace HP := Lib.hid (HP.out.new hb)
  replace JP := Lib.hid (JP.out.new hb)
  replace HW := Lib.hid (bthen HW.out hb HW.out.size)
  clear hb
  clear HP JP
  go_wp2_with fail
  refine (bits_n HA.out).mono ?_
  rintro e w40 ⟨b, rfl, hbits, hb3, rfl⟩
  have HBI := Lib.hid hbits; clear hbits
  go_wp2_with fail
  refine (rbits_any _ _ _ N _ HX.out (by omega)).mono ?_
  rintro e w41 ⟨b2, rfl, hbits, hb⟩
  replace HA := Lib.hid (HA.out.new hb)
  replace HB := Lib.hid (HB.out.new hb)
  replace HX := Lib.hid (HX.out.new hb)
  replace HY := Lib.hid (HY.out.new hb)
  replace HW := Lib.hid (bthen HW.out hb HW.out.size)
  clear hb
  obtain rfl : b = b2 := HBI.out.unique hbits
  clear hbits
  have tb : ((b : Int) == (b : Int)) = true := by simp
  go_wp2_with fail
  refine (of_n x hx _).mono ?_
  rintro e w42 ⟨A42, k42, c42, rfl, h42, j42, hb⟩
  replace HA := Lib.hid (HA.out.new hb)
  replace HB := Lib.hid (HB.out.new hb)
  replace HX := Lib.hid (HX.out.new hb)
  replace HY := Lib.hid (HY.out.new hb)
  replace HW := Lib.hid (bthen HW.out hb HW.out.size)
  have HP := Lib.hid h42; clear h42
  have JP := Lib.hid j42; clear j42
  clear hb
  have hE := fun W => es_two W (x % 4294967296) (x / 4294967296) (by omega) (by omega)
  simp only [Int.natCast_emod, Int.natCast_ediv, Int.cast_ofNat_Int] at hE
  go_wp2_with fail
  refine (rof_any _ [x % 4294967296, x / 4294967296] 2 2 _ (hE _) (by omega)).mono ?_
  rw [cell_split x hx]
  rintro e w50 ⟨A50, k50, c50, rfl, h50, hb0⟩
  have hb := bthen (al _ _) hb0 (al _ _).size
  clear hb0 hE
  replace HA := Lib.hid (HA.out.new hb)
  replace HB := Lib.hid (HB.out.new hb)
  replace HX := Lib.hid (HX.out.new hb)
  replace HY := Lib.hid (HY.out.new hb)
  replace HP := Lib.hid (HP.out.new hb)
  replace JP := Lib.hid (JP.out.new hb)
  replace HW := Lib.hid (bthen HW.out hb HW.out.size)
  have HQ := Lib.hid h50; clear h50 hb
  go_wp2_with fail
  refine (is_d HP.out JP.out HQ.out).mono ?_
  rintro e w51 ⟨rfl, hb⟩
  replace HA := Lib.hid (HA.out.new hb)
  replace HB := Lib.hid (HB.out.new hb)
  replace HX := Lib.hid (HX.out.new hb)
  replace HY := Lib.hid (HY.out.new hb)
  replace HP := Lib.hid (HP.out.new hb)
  replace JP := Lib.hid (JP.out.new hb)
  replace HQ := Lib.hid (HQ.out.new hb)
  replace HW := Lib.hid (bthen HW.out hb HW.out.size)
  clear hb
  go_wp2_with fail
  go_ret
  exact ⟨rfl, HW.out⟩
end
theorem natCompares_walk (A : Option Addr) (ds : List Nat) (n c : Nat) (B : Option Addr) (fs : List Nat) (m d : Nat) (x : Int) (w : World) (hr : Es w w.heap.size A n ds) (hc : n ≤ c) (hs : Es w w.heap.size B m fs) (hd : m ≤ d) (hx : 0 ≤ x ∧ x ≤ 18446744073709551615) :
    Calls Try.prog 3 #[.slice A n c, .slice B m d, .int .u64 x] w fun e w' => e = .returned (.bool true) ∧ Below w.heap.size w w' := by
  obtain ⟨x, rfl⟩ := Int.eq_ofNat_of_zero_le hx.1
  by_cases h : 20 < n ∨ 20 < m
  · exact comp_far A B n m c d x w hr.le hs.le h
  · have ha := Num.of_es (b := 20) hr hc (by omega) (by omega) (by omega)
    have hb := Num.of_es (b := 20) hs hd (by omega) (by omega) (by omega)
    by_cases hlt : valB 4294967296 ds < 18446744073709551616
    · exact comp_small A B n m c d x w _ _ ha hb (by omega) (by omega) (by omega) hlt
    · exact comp_big A B n m c d x w _ _ ha hb (by omega) (by omega) (by omega) (by omega)
end Go.Proofs.Ytnpokifmknepoaa
