/-
  The walk of NatPowers.
-/
import Derived.Test.YtnpokifmknepoaaNRing
namespace Go.Proofs.Ytnpokifmknepoaa
open Go.RowKit

def bigF : Nat := 65535
theorem bigF_eq : bigF = 65535 := rfl
theorem pow_small {s b x E N : Nat} (hN : N < (2 ^ s) ^ b) (h : s * b * x < E) : N ^ x < 2 ^ E := by
  have h1 : N ^ x ≤ ((2 ^ s) ^ b) ^ x := Nat.pow_le_pow_left (Nat.le_of_lt hN) x
  rw [← Nat.pow_mul, ← Nat.pow_mul, ← Nat.mul_assoc] at h1
  exact Nat.lt_of_le_of_lt h1 (Nat.pow_lt_pow_right (by omega) h)
theorem PB_small {x N : Nat} (hN : N < PB 20) (h : x ≤ 22) : N ^ x < bigP := by
  rw [← bigP_eq]
  exact pow_small (s := 32) (b := 20) hN (by rw [bigE_eq]; omega)
theorem bits_pow2 (e : Nat) : BitsIs (2 ^ e) (e + 1) := .inr ⟨by omega, by rw [Nat.add_sub_cancel]; exact Nat.le_refl _, Nat.pow_lt_pow_right (by omega) (by omega)⟩
def RetPN (w : World) (N : Nat) (e : Ending) (w' : World) : Prop := ∃ A k c, e = .returned (.tuple #[.slice A k c, .int .i64 0]) ∧ Num w' A k c 4096 N ∧ Below w.heap.size w w'
section
variable {w : World} {A : Option Addr} {n c N b : Nat}
theorem pow_fits (ha : Num w A n c b N) (x : Nat) (hx : x ≤ 100000) (h : N ^ x < bigP) (X : Int) (hX : X = x) : Calls Try.prog 22 #[.slice A n c, .int .i64 X] w (RetPN w (N ^ x)) := by
  refine (pow_n ha X (by omega)).mono fun e w' hp => ?_
  have hX' : X.toNat = x := by omega
  obtain ⟨A', k', c', h1, h2, -, h3⟩ := hp.2.1 (by omega) (by rw [hX']; exact h)
  rw [hX'] at h2
  exact ⟨A', k', c', h1, h2, h3⟩
theorem pow_over (ha : Num w A n c b N) (x : Nat) (hx : x ≤ 100000) (h : bigP ≤ N ^ x) (X : Int) (hX : X = x) : Calls Try.prog 22 #[.slice A n c, .int .i64 X] w fun e w' => e = .returned (.tuple #[.slice none 0 0, .int .i64 20]) ∧ Below w.heap.size w w' := by
  refine (pow_n ha X (by omega)).mono fun e w' hp => ?_
  have hX' : X.toNat = x := by omega
  exact hp.2.2 (by omega) (by rw [hX']; exact h)
theorem pow_neg (ha : Num w A n c b N) : Calls Try.prog 22 #[.slice A n c, .int .i64 (-1)] w fun e w' => e = .returned (.tuple #[.slice none 0 0, .int .i64 3]) ∧ Below w.heap.size w w' :=
  (pow_n ha (-1) (by omega)).mono fun e w' hp => hp.1 (by omega)
theorem bits_last (ha : Num w A n c b (2 ^ bigF)) : Calls Try.prog 20 #[.slice A n c] w fun e w' => e = .returned (.int .i64 65536) ∧ w = w' := by
  refine (bits_n ha).mono fun e w' h => ?_
  obtain ⟨b, h1, h2, -, h3⟩ := h
  have hb6 := h2.unique (bits_pow2 bigF)
  rw [bigF_eq] at hb6
  have : (b : Int) = 65536 := by omega
  rw [this] at h1
  exact ⟨h1, h3⟩
theorem pow2_over (ha : Num w A n c b 2) : Calls Try.prog 22 #[.slice A n c, .int .i64 65536] w fun e w' => e = .returned (.tuple #[.slice none 0 0, .int .i64 20]) ∧ Below w.heap.size w w' :=
  pow_over ha bigE (by rw [bigE_eq]; omega) (Nat.le_of_eq bigP_eq.symm) _ (by rw [bigE_eq]; rfl)
theorem pow2_fits (ha : Num w A n c b 2) : Calls Try.prog 22 #[.slice A n c, .int .i64 65535] w (RetPN w (2 ^ bigF)) :=
  pow_fits ha bigF (by rw [bigF_eq]; omega) (by rw [← bigP_eq]; exact Nat.pow_lt_pow_right (by omega) (by rw [bigF_eq, bigE_eq]; omega)) _ (by rw [bigF_eq]; rfl)
end

section
variable (A : Option Addr) (n c : Nat) (w : World)
set_option maxHeartbeats 4000000 in
theorem powers_far (x y : Int) (h1 : n ≤ 9223372036854775807) (h : 20 < n) :
    Calls Try.prog 4 #[.slice A n c, .int .u8 x, .int .u8 y] w fun e w' => e = .returned (.bool true) ∧ Below w.heap.size w w' := by
  go_enter Try.func4, Try.ntmps4
  go_wp2_with fail
  refine (awake_any _).mono ?_
  rintro e w1 ⟨rfl, hb⟩
  have HW := Lib.hid hb; clear hb
  go_wp2_with fail
  refine (great_yes (m := 0) _ h1 (by omega) (.inl h)).mono ?_
  rintro e w2 ⟨rfl, rfl⟩
  go_wp2_with fail
  go_ret
  exact ⟨rfl, HW.out⟩

set_option maxHeartbeats 8000000 in
theorem powers_near (na x y i k : Nat) (ha : Num w A n c 20 na) (h1 : n ≤ 20) (hi : i = x % 12) (hk : k = y % 12) (hx : x < 256) (hy : y < 256) :
    Calls Try.prog 4 #[.slice A n c, .int .u8 (x : Int), .int .u8 (y : Int)] w fun e w' => e = .returned (.bool true) ∧ Below w.heap.size w w' := by
  have HA := Lib.hid ha; clear ha
  have hi2 : i ≤ 11 := by omega
  have hk2 : k ≤ 11 := by omega
  have ei : ((x : Int) % 12) = (i : Int) := by omega
  have ek : ((y : Int) % 12) = (k : Int) := by omega
  have hbd : na < PB 20 := HA.out.2.2.2.1
  have HBD := Lib.hid hbd; clear hbd hi hk
  go_enter Try.func4, Try.ntmps4
  go_wp2_with fail
  refine (awake_any _).mono ?_
  rintro e w1 ⟨rfl, hb⟩
  replace HA := Lib.hid (HA.out.new hb)
  have HW := Lib.hid hb; clear hb
  go_wp2_with fail
  refine (great_no (m := 0) _ h1 (by omega)).mono ?_
  rintro e w2 ⟨rfl, rfl⟩
  go_wp2_with fail
  refine (pow_fits HA.out i (by omega) (PB_small HBD.out (by omega)) _ rfl).mono ?_
  rintro e w2 ⟨Ax, kx, cx, rfl, hx1, hb⟩
  replace HA := Lib.hid (HA.out.new hb)
  replace HW := Lib.hid (bthen HW.out hb HW.out.size)
  have HX := Lib.hid hx1; clear hx1 hb
  go_wp2_with fail
  refine (pow_fits HA.out k (by omega) (PB_small HBD.out (by omega)) _ rfl).mono ?_
  rintro e w3 ⟨Ay, ky, cy, rfl, hx1, hb⟩
  replace HA := Lib.hid (HA.out.new hb)
  replace HX := Lib.hid (HX.out.new hb)
  replace HW := Lib.hid (bthen HW.out hb HW.out.size)
  have HY := Lib.hid hx1; clear hx1 hb
  go_wp2_with fail
  refine (pow_fits HA.out (i + k) (by omega) (PB_small HBD.out (by omega)) _ (by omega)).mono ?_
  rintro e w4 ⟨A4, k4, c4, rfl, hx1, hb⟩
  replace HA := Lib.hid (HA.out.new hb)
  replace HX := Lib.hid (HX.out.new hb)
  replace HY := Lib.hid (HY.out.new hb)
  replace HW := Lib.hid (bthen HW.out hb HW.out.size)
  have HZ := Lib.hid hx1; clear hx1 hb
  go_wp2_with fail
  refine (pow_fits HA.out 0 (by omega) (PB_small HBD.out (by omega)) _ rfl).mono ?_
  rintro e w5 ⟨A5, k5, c5, rfl, hx1, hb⟩
  replace HA := Lib.hid (HA.out.new hb)
  replace HX := Lib.hid (HX.out.new hb)
  replace HY := Lib.hid (HY.out.new hb)
  replace HZ := Lib.hid (HZ.out.new hb)
  replace HW := Lib.hid (bthen HW.out hb HW.out.size)
  have HO := Lib.hid hx1; clear hx1 hb
  go_wp2_with fail
  refine (pow_neg HA.out).mono ?_
  rintro e w6 ⟨rfl, hb⟩
  replace HA := Lib.hid (HA.out.new hb)
  replace HX := Lib.hid (HX.out.new hb)
  replace HY := Lib.hid (HY.out.new hb)
  replace HZ := Lib.hid (HZ.out.new hb)
  replace HO := Lib.hid (HO.out.new hb)
  replace HW := Lib.hid (bthen HW.out hb HW.out.size)
  clear hb
  go_wp2_with fail
  refine (of_n 2 (by omega) _).mono ?_
  rintro e w7 ⟨A7, k7, c7, rfl, h7, -, hb⟩
  replace HA := Lib.hid (HA.out.new hb)
  replace HX := Lib.hid (HX.out.new hb)
  replace HY := Lib.hid (HY.out.new hb)
  replace HZ := Lib.hid (HZ.out.new hb)
  replace HO := Lib.hid (HO.out.new hb)
  replace HW := Lib.hid (bthen HW.out hb HW.out.size)
  have HT := Lib.hid h7; clear h7 hb
  go_wp2_with fail
  refine (pow2_over HT.out).mono ?_
  rintro e w8 ⟨rfl, hb⟩
  replace HA := Lib.hid (HA.out.new hb)
  replace HX := Lib.hid (HX.out.new hb)
  replace HY := Lib.hid (HY.out.new hb)
  replace HZ := Lib.hid (HZ.out.new hb)
  replace HO := Lib.hid (HO.out.new hb)
  replace HW := Lib.hid (bthen HW.out hb HW.out.size)
  clear hb
  go_wp2_with fail
  clear HT
  refine (of_n 2 (by omega) _).mono ?_
  rintro e w9 ⟨A9, k9, c9, rfl, h9, -, hb⟩
  replace HA := Lib.hid (HA.out.new hb)
  replace HX := Lib.hid (HX.out.new hb)
  replace HY := Lib.hid (HY.out.new hb)
  replace HZ := Lib.hid (HZ.out.new hb)
  replace HO := Lib.hid (HO.out.new hb)
  replace HW := Lib.hid (bthen HW.out hb HW.out.size)
  have HT := Lib.hid h9; clear h9 hb
  go_wp2_with fail
  refine (pow2_fits HT.out).mono ?_
  rintro e w10 ⟨A10, k10, c10, rfl, hx1, hb⟩
  replace HA := Lib.hid (HA.out.new hb)
  replace HX := Lib.hid (HX.out.new hb)
  replace HY := Lib.hid (HY.out.new hb)
  replace HZ := Lib.hid (HZ.out.new hb)
  replace HO := Lib.hid (HO.out.new hb)
  replace HW := Lib.hid (bthen HW.out hb HW.out.size)
  have HL := Lib.hid hx1; clear hx1 hb
  go_wp2_with fail
  refine (pow_fits HA.out (i + 1) (by omega) (PB_small HBD.out (by omega)) _ (by omega)).mono ?_
  rintro e w11 ⟨A11, k11, c11, rfl, hx1, hb⟩
  replace HA := Lib.hid (HA.out.new hb)
  replace HX := Lib.hid (HX.out.new hb)
  replace HY := Lib.hid (HY.out.new hb)
  replace HZ := Lib.hid (HZ.out.new hb)
  replace HO := Lib.hid (HO.out.new hb)
  replace HL := Lib.hid (HL.out.new hb)
  replace HW := Lib.hid (bthen HW.out hb HW.out.size)
  have HN := Lib.hid hx1; clear hx1 hb
  go_wp2_with fail
  refine (mul_n HX.out HA.out (by omega)).mono ?_
  rintro e w2 ⟨A2, k2, c2, rfl, h2, -, hb⟩
  replace HA := Lib.hid (HA.out.new hb)
  replace HX := Lib.hid (HX.out.new hb)
  replace HY := Lib.hid (HY.out.new hb)
  replace HZ := Lib.hid (HZ.out.new hb)
  replace HO := Lib.hid (HO.out.new hb)
  replace HL := Lib.hid (HL.out.new hb)
  replace HN := Lib.hid (HN.out.new hb)
  replace HW := Lib.hid (bthen HW.out hb HW.out.size)
  have HS := Lib.hid h2; clear h2 hb
  go_wp2_with fail
  refine (cmp_n HN.out HS.out).mono ?_
  rintro e w3 ⟨rfl, hb⟩
  rw [← Nat.pow_succ, cmpN_self]
  replace HA := Lib.hid (HA.out.new hb)
  replace HX := Lib.hid (HX.out.new hb)
  replace HY := Lib.hid (HY.out.new hb)
  replace HZ := Lib.hid (HZ.out.new hb)
  replace HO := Lib.hid (HO.out.new hb)
  replace HL := Lib.hid (HL.out.new hb)
  replace HN := Lib.hid (HN.out.new hb)
  replace HS := Lib.hid (HS.out.new hb)
  replace HW := Lib.hid (bthen HW.out hb HW.out.size)
  clear hb
  clear HS HN
  go_wp2_with fail
  refine (mul_n HX.out HY.out (by omega)).mono ?_
  rintro e w5 ⟨A5, k5, c5, rfl, h5, -, hb⟩
  replace HA := Lib.hid (HA.out.new hb)
  replace HX := Lib.hid (HX.out.new hb)
  replace HY := Lib.hid (HY.out.new hb)
  replace HZ := Lib.hid (HZ.out.new hb)
  replace HO := Lib.hid (HO.out.new hb)
  replace HL := Lib.hid (HL.out.new hb)
  replace HW := Lib.hid (bthen HW.out hb HW.out.size)
  have HS := Lib.hid h5; clear h5 hb
  go_wp2_with fail
  refine (cmp_n HZ.out HS.out).mono ?_
  rintro e w6 ⟨rfl, hb⟩
  rw [← Nat.pow_add, cmpN_self]
  replace HA := Lib.hid (HA.out.new hb)
  replace HX := Lib.hid (HX.out.new hb)
  replace HY := Lib.hid (HY.out.new hb)
  replace HZ := Lib.hid (HZ.out.new hb)
  replace HO := Lib.hid (HO.out.new hb)
  replace HL := Lib.hid (HL.out.new hb)
  replace HS := Lib.hid (HS.out.new hb)
  replace HW := Lib.hid (bthen HW.out hb HW.out.size)
  clear hb
  clear HS HZ
  go_wp2_with fail
  refine (of_n 1 (by omega) _).mono ?_
  rintro e w8 ⟨A8, k8, c8, rfl, h8, -, hb⟩
  replace HA := Lib.hid (HA.out.new hb)
  replace HX := Lib.hid (HX.out.new hb)
  replace HY := Lib.hid (HY.out.new hb)
  replace HO := Lib.hid (HO.out.new hb)
  replace HL := Lib.hid (HL.out.new hb)
  replace HW := Lib.hid (bthen HW.out hb HW.out.size)
  have HS := Lib.hid h8; clear h8 hb
  go_wp2_with fail
  refine (cmp_n HO.out HS.out).mono ?_
  rintro e w9 ⟨rfl, hb⟩
  rw [Nat.pow_zero, cmpN_self]
  replace HA := Lib.hid (HA.out.new hb)
  replace HX := Lib.hid (HX.out.new hb)
  replace HY := Lib.hid (HY.out.new hb)
  replace HO := Lib.hid (HO.out.new hb)
  replace HL := Lib.hid (HL.out.new hb)
  replace HS := Lib.hid (HS.out.new hb)
  replace HW := Lib.hid (bthen HW.out hb HW.out.size)
  clear hb
  go_wp2_with fail
  refine (bits_last HL.out).mono ?_
  rintro e w20 ⟨rfl, rfl⟩
  go_wp2_with fail
  go_ret
  exact ⟨rfl, HW.out⟩
end

theorem natPowers_walk (A : Option Addr) (ds : List Nat) (n c : Nat) (x y : Int) (w : World) (hr : Es w w.heap.size A n ds) (hc : n ≤ c) (hx : 0 ≤ x ∧ x ≤ 255) (hy : 0 ≤ y ∧ y ≤ 255) :
    Calls Try.prog 4 #[.slice A n c, .int .u8 x, .int .u8 y] w fun e w' => e = .returned (.bool true) ∧ Below w.heap.size w w' := by
  by_cases h : 20 < n
  · exact powers_far A n c w x y hr.le h
  · obtain ⟨x', rfl⟩ := Int.eq_ofNat_of_zero_le hx.1
    obtain ⟨y', rfl⟩ := Int.eq_ofNat_of_zero_le hy.1
    exact powers_near A n c w _ x' y' _ _ (Num.of_es hr hc (by omega) (by omega) (by omega)) (by omega) rfl rfl (by omega) (by omega)

end Go.Proofs.Ytnpokifmknepoaa
