/-
  awake of layer 4 returns true.
-/
import Derived.Test.YtnpokifmknepoaaNNum
namespace Go.Proofs.Ytnpokifmknepoaa
open Go.RowKit

def awA : Nat := 18446744073709551615
theorem awA_lt : awA < 18446744073709551616 := by decide
theorem awBits : BitsIs awA 64 := .inr ⟨by omega, by decide, by decide⟩
def awD : List Nat := [5, 2, 2, 8, 0, 1, 9, 4, 3, 4, 8, 2, 9, 1, 1, 1, 8, 4, 6, 2, 4, 3, 6, 4, 8, 3, 9, 0, 2, 9, 6, 6, 3, 2, 8, 2, 0, 4, 3]
theorem awD_nrm : Nrm 10 awD (awA * awA) := ⟨by decide, by decide, by decide⟩
theorem awD_text : textOf awD = { data := #[51, 52, 48, 50, 56, 50, 51, 54, 54, 57, 50, 48, 57, 51, 56, 52, 54, 51, 52, 50, 54, 52, 56, 49, 49, 49, 57, 50, 56, 52, 51, 52, 57, 49, 48, 56, 50, 50, 53] } := by decide
theorem awLen1 : PB 1 ≤ awA := by decide
theorem awLen2 : awA < PB (1 + 1) := by decide
theorem awPow : awA ^ (2 : Int).toNat = awA * awA := by rw [show (2 : Int).toNat = 2 from rfl, Nat.pow_two]
theorem awBig : awA * awA < bigP := by
  have h1 : awA * awA < 2 ^ 128 := by decide
  exact Nat.lt_trans h1 (by rw [bigP]; exact Nat.pow_lt_pow_right (by omega) (by rw [bigE_eq]; omega))
theorem awMod : awA * awA % 10 = 5 := by decide
theorem cmpN_self (n : Nat) : cmpN n n = 0 := by simp [cmpN]

set_option maxHeartbeats 4000000 in
theorem awake_any (w : World) : Calls Try.prog 10 #[] w fun e w' => e = .returned (.bool true) ∧ Below w.heap.size w w' := by
  go_enter Try.func10, Try.ntmps10
  go_wp2_with fail
  refine (of_n awA awA_lt _).mono ?_
  rintro e w1 ⟨A1, k1, c1, rfl, ha, na, hb⟩
  have hk := na.length awLen1 awLen2
  have HA := Lib.hid ha; have HB := Lib.hid hb; clear ha hb na
  obtain rfl : k1 = 2 := hk
  go_wp2_with fail
  refine (mul_n HA.out HA.out (by omega)).mono ?_
  rintro e w2 ⟨A2, k2, c2, rfl, h2, -, hb⟩
  replace HA := Lib.hid (HA.out.new hb)
  replace HB := Lib.hid (bthen HB.out hb HB.out.size)
  have H2 := Lib.hid h2; clear h2 hb
  go_wp2_with fail
  refine (of_n 10 (by omega) _).mono ?_
  rintro e w3 ⟨A3, k3, c3, rfl, h3, -, hb⟩
  replace HA := Lib.hid (HA.out.new hb)
  replace H2 := Lib.hid (H2.out.new hb)
  replace HB := Lib.hid (bthen HB.out hb HB.out.size)
  have H3 := Lib.hid h3; clear h3 hb
  go_wp2_with fail
  refine (dm_n H2.out H3.out (by omega) (by omega)).mono ?_
  rintro e w4 h
  obtain ⟨A4, k4, c4, A5, k5, c5, rfl, ⟨h4, -⟩, ⟨h5, -⟩, hb⟩ := h.2 (by omega)
  clear h
  replace HA := Lib.hid (HA.out.new hb)
  replace H2 := Lib.hid (H2.out.new hb)
  replace HB := Lib.hid (bthen HB.out hb HB.out.size)
  have H4 := Lib.hid h4; have H5 := Lib.hid h5; clear h4 h5 hb H3
  go_wp2_with fail
  refine (pow_n HA.out 2 (by omega)).mono ?_
  rintro e w5 h
  have h' := h.2.1 (by omega) (by rw [awPow]; exact awBig)
  rw [awPow] at h'
  obtain ⟨A6, k6, c6, rfl, h6, -, hb⟩ := h'
  clear h
  replace HA := Lib.hid (HA.out.new hb)
  replace H2 := Lib.hid (H2.out.new hb)
  replace H4 := Lib.hid (H4.out.new hb)
  replace H5 := Lib.hid (H5.out.new hb)
  replace HB := Lib.hid (bthen HB.out hb HB.out.size)
  have H6 := Lib.hid h6; clear h6 hb
  go_wp2_with fail
  refine (u64_n H5.out).mono ?_
  rintro e w6 ⟨hu, -, rfl⟩
  rw [awMod] at hu
  obtain rfl := hu (by omega)
  clear hu
  go_wp2_with fail
  refine (bits_n HA.out).mono ?_
  rintro e w6 ⟨b, rfl, hbi, -, rfl⟩
  obtain rfl := hbi.unique awBits
  clear hbi
  go_wp2_with fail
  refine (text_n H2.out).mono ?_
  rintro e w6 ⟨D, hD, rfl, hb⟩
  obtain rfl := hD.unique awD_nrm (by omega)
  clear hD
  rw [awD_text]
  replace HA := Lib.hid (HA.out.new hb)
  replace H2 := Lib.hid (H2.out.new hb)
  replace H4 := Lib.hid (H4.out.new hb)
  replace H5 := Lib.hid (H5.out.new hb)
  replace H6 := Lib.hid (H6.out.new hb)
  replace HB := Lib.hid (bthen HB.out hb HB.out.size)
  clear hb
  go_wp2_with fail
  refine (cmp_n H2.out H6.out).mono ?_
  rintro e w7 ⟨rfl, hb⟩
  rw [cmpN_self]
  replace HA := Lib.hid (HA.out.new hb)
  replace H2 := Lib.hid (H2.out.new hb)
  replace H4 := Lib.hid (H4.out.new hb)
  replace H5 := Lib.hid (H5.out.new hb)
  replace H6 := Lib.hid (H6.out.new hb)
  replace HB := Lib.hid (bthen HB.out hb HB.out.size)
  clear hb
  go_wp2_with fail
  refine (of_n 10 (by omega) _).mono ?_
  rintro e w8 ⟨A3, k3, c3, rfl, h3, -, hb⟩
  replace HA := Lib.hid (HA.out.new hb)
  replace H2 := Lib.hid (H2.out.new hb)
  replace H4 := Lib.hid (H4.out.new hb)
  replace H5 := Lib.hid (H5.out.new hb)
  replace H6 := Lib.hid (H6.out.new hb)
  replace HB := Lib.hid (bthen HB.out hb HB.out.size)
  have H3 := Lib.hid h3; clear h3 hb
  go_wp2_with fail
  refine (mul_n H4.out H3.out (by omega)).mono ?_
  rintro e w9 ⟨A7, k7, c7, rfl, h7, -, hb⟩
  replace H2 := Lib.hid (H2.out.new hb)
  replace H5 := Lib.hid (H5.out.new hb)
  replace HB := Lib.hid (bthen HB.out hb HB.out.size)
  have H7 := Lib.hid h7; clear h7 hb
  go_wp2_with fail
  refine (add_n H7.out H5.out (by omega)).mono ?_
  rintro e w10 ⟨A8, k8, c8, rfl, h8, -, hb⟩
  replace H2 := Lib.hid (H2.out.new hb)
  replace HB := Lib.hid (bthen HB.out hb HB.out.size)
  have H8 := Lib.hid h8; clear h8 hb
  go_wp2_with fail
  refine (cmp_n H8.out H2.out).mono ?_
  rintro e w11 ⟨rfl, hb⟩
  rw [Nat.div_add_mod' (awA * awA) 10, cmpN_self]
  replace HB := Lib.hid (bthen HB.out hb HB.out.size)
  clear hb
  go_wp2_with fail
  go_ret
  exact ⟨rfl, HB.out⟩

end Go.Proofs.Ytnpokifmknepoaa
